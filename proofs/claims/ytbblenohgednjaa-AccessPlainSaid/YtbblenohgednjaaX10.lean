import Derived.Test.YtbblenohgednjaaX9
/- A part of the walking machine: shown once for every program of the model; no condition of its own. -/
/- copy, append, calls; every operation. -/
namespace Go.X

section
variable {E : Env} {ρ : Nat → Addr} {A : Nat → Prop} {hp : Hp} {w : World} {fid : Nat} {next : Value → World → Prop}

theorem srcLen_spec {x : SV} {n : Nat} {s : Bool} {u : Value} (h : srcLen x = some (n, s)) (hx : R ρ A x u) : (Builtin.lenOf u).run E.P w = .ok n w := by
  unfold srcLen at h
  split at h
  · simp at h; obtain ⟨rfl, rfl⟩ := h; rw [hx.2]; rfl
  · simp at h; obtain ⟨rfl, rfl⟩ := h; rw [hx.2]; rfl
  · simp at h; obtain ⟨rfl, rfl⟩ := h; rw [hx.2]; rfl
  · cases h

theorem byteAt_spec (b : ByteArray) (n : Nat) (hn : n ≤ b.size) : ((b.extract 0 n).data.map fun c => Value.int .u8 c.toNat) = ((List.range n).map fun i => Value.int .u8 (byteAt b i).toNat).toArray := by
  apply Array.ext'
  rw [Array.toList_map]
  apply List.ext_getElem?
  intro i
  have hsz : b.data.toList.length = b.size := by rw [Array.length_toList]; rfl
  have he : (b.extract 0 n).data.toList = b.data.toList.take n := by
    rw [ByteArray.data_extract]
    simp
  rw [List.getElem?_map, he]
  by_cases hi : i < n
  · have hlt : i < b.data.toList.length := by omega
    rw [List.getElem?_take_of_lt hi, List.getElem?_eq_getElem hlt]
    simp only [Option.map_some, byteAt]
    rw [List.getElem?_map, List.getElem?_eq_getElem (by simpa using hi : i < (List.range n).length)]
    simp only [List.getElem_range, Option.map_some, List.getElem?_eq_getElem hlt, Option.getD_some]
    simp
  · rw [List.getElem?_take_eq_none (by omega)]
    simp [hi]

/-- The cells that are copied. -/
theorem srcBytes_spec {x : SV} {n m : Nat} {s : Bool} {u : Value} {k : List Prop → (Nat → BitVec 8) → Rd} {r : Res} {l : List Nat} (h : (srcBytes x n k).run hp = some (r, l)) (hl : srcLen x = some (m, s)) (hn : n ≤ m) (hs : HSim ρ A hp w) (hx : R ρ A x u) :
    ∃ ns f l', (k ns f).run hp = some (r, l') ∧ ((∀ p ∈ ns, p) → (Builtin.firstCells 1 n u).run E.P w = .ok ((List.range n).map fun i => Value.int .u8 (f i).toNat).toArray w) := by
  unfold srcBytes at h
  split at h
  · rename_i st b
    simp [srcLen] at hl
    obtain ⟨rfl, rfl⟩ := hl
    refine ⟨_, _, _, h, fun _ => ?_⟩
    rw [hx.2]
    simp only [V.enc, SC.enc, Builtin.firstCells, Sem.run_pure]
    rw [byteAt_spec b n hn]
  · rename_i a st len cap
    obtain ⟨b, l', hb, h⟩ := run_get h
    split at h
    · rename_i ns f hf
      refine ⟨_, _, _, h, fun hns => ?_⟩
      rw [hx.2]
      simp only [V.enc, SC.enc, Builtin.firstCells, Nat.mul_one]
      have := run_loadCells_of (P := E.P) (w := w) (a := a.enc ρ) (l := (List.range n).map fun i => Value.int .u8 (f i).toNat) (fun j v hj => by
        have hj' := (List.getElem?_eq_some_iff.1 hj).1
        simp at hj'
        rw [XA.enc, Addr.add_add]
        have := hs.cell hb (bytesAt_spec hf hns j hj')
        rw [this]
        simpa [hj'] using hj)
      rwa [List.length_map, List.length_range] at this
    · cases h
  · simp [srcLen] at hl
    obtain ⟨rfl, rfl⟩ := hl
    have : n = 0 := by omega
    subst this
    refine ⟨_, _, _, h, fun _ => ?_⟩
    rw [hx.2]
    simp [V.enc, SC.enc, Builtin.firstCells]
  · cases h

theorem laid_cells (f g : Nat → BitVec 8) (o n k : Nat) (h : o + n ≤ k) : (List.range k).map (fun i => Value.int .u8 (laid f g o n i).toNat) =
    (List.range o).map (fun i => Value.int .u8 (f i).toNat) ++ ((List.range n).map (fun i => Value.int .u8 (g i).toNat) ++ (List.range (k - (o + n))).map fun i => Value.int .u8 (f (o + n + i)).toNat) := by
  rw [range_split _ (o + n) k h, range_split _ o (o + n) (by omega), Nat.add_sub_cancel_left, List.append_assoc]
  congr 1
  · exact range_map_congr fun i hi => by rw [laid, if_neg (by omega)]
  · congr 1
    · exact range_map_congr fun i hi => by rw [laid, if_pos (by omega), Nat.add_sub_cancel_left]
    · exact range_map_congr fun i hi => by rw [laid, if_neg (by omega)]

theorem copyx_ok {t : TypeId} {d x : SV} {r : Res} {l : List Nat} {u v : Value} (h : (copyx E t d x).run hp = some (r, l)) (hs : HSim ρ A hp w) (hd : R ρ A d u) (hx : R ρ A x v) (hP : Post ρ A hp w fid r next) (ty : TypeId) (ats : Array TypeId) (hats : ats[0]? = some t) :
    ∃ z w', (Builtin.copy_ ats ty #[u, v]).run E.P w = .ok z w' ∧ next z w' := by
  unfold copyx at h
  split at h
  · rename_i e a s len cap m s' ht hm
    split at h
    · rename_i hq
      split at h
      · rename_i hc1
        have hmin1 : Nat.min m len ≤ m := Nat.min_le_left _ _
        obtain ⟨ns, g, l', h, hg⟩ := srcBytes_spec (E := E) (w := w) h hm hmin1 hs hx
        obtain ⟨b, l2, hb, h⟩ := run_get h
        split at h
        · rename_i ho
          split at h
          · rename_i st k f o hsegs hoff
            obtain rfl := run_ret h
            obtain ⟨hn, hk⟩ := hP (by simp)
            have hok : o + Nat.min m len ≤ k := hn (o + Nat.min m len ≤ k) (by simp)
            have hns := hg (fun p hp => hn p (by simp [hp]))
            have hao : a.o = o := by
              unfold XA.o
              split at hoff
              · rename_i hd; rw [hd]; simpa using hoff
              · rename_i dd hd
                rw [hd]
                split at hoff
                · rename_i hh
                  obtain ⟨h1, h2, h3⟩ := hh
                  simp at hoff
                  simp [h1, h2, h3, hoff]
                · cases hoff
            obtain ⟨h1, rest, hr, h2⟩ := hs.own _ b hb ho
            have hcells : cellsOf ρ b.segs = (List.range o).map (fun i => Value.int .u8 (f i).toNat) ++ ((List.range (Nat.min m len)).map (fun i => Value.int .u8 (f (o + i)).toNat) ++ (List.range (k - (o + Nat.min m len))).map fun i => Value.int .u8 (f (o + Nat.min m len + i)).toNat) := by
              rw [hsegs]
              simp only [cellsOf, Seg.cells, List.append_nil]
              rw [range_split _ (o + Nat.min m len) k hok, range_split _ o (o + Nat.min m len) (by omega), Nat.add_sub_cancel_left, List.append_assoc]
            have hput := hs.put hb ho (segs := [.u8s false k (laid f g o (Nat.min m len))]) (fun g hg => by simp at hg; subst hg; trivial) hr
            have hst := run_storeCells (P := E.P) (ρ a.id).block b.ty ((List.range (Nat.min m len)).map fun i => Value.int .u8 (g i).toNat) ((List.range o).map (fun i => Value.int .u8 (f i).toNat)) ((List.range (Nat.min m len)).map (fun i => Value.int .u8 (f (o + i)).toNat) ++ ((List.range (k - (o + Nat.min m len))).map (fun i => Value.int .u8 (f (o + Nat.min m len + i)).toNat) ++ rest)) w o 0
              (fun v hv => by obtain ⟨i, _, rfl⟩ := List.mem_map.1 hv; rfl) (by rw [h2, hcells]; simp) (by simp) (by simp)
            refine ⟨.int .i64 (Nat.min m len), _, ?_, hk ρ A _ _ (Ext.refl _ _ _) hput ⟨trivial, rfl⟩ ((Fr.putBlk h2).mono fun j _ hj => ⟨a.id, ⟨_, List.mem_singleton.2 rfl⟩, hj⟩) (fun i h1 h2 => absurd h1 h2)⟩
            rw [hd.2]
            simp only [Builtin.copy_, hats, List.getElem?_toArray, List.getElem?_cons_zero, List.getElem?_cons_succ, Sem.run_bind, run_und ht, Result.andThen_ok, V.enc, SC.enc, srcLen_spec hm hx, run_size hq, hc1, hns]
            rw [XA.enc, hao, own_add h1, hst]
            simp only [Result.andThen_ok, Sem.run_pure, goInt]
            congr 2
            · simp only [cellsOf, Seg.cells, List.append_nil]
              rw [laid_cells _ _ _ _ _ hok, List.drop_append_of_le_length (by simp), List.drop_of_length_le (by simp)]
              simp
          · cases h
        · cases h
      · cases h
    · cases h
  · cases h

/-- A block under another number. -/
theorem HSim.move (hs : HSim ρ A hp w) {i j : Nat} {b : Blk} (hb : hp i = some b) (hj : ¬ A j) :
    HSim (fun k => if k = j then ρ i else ρ k) (fun k => A k ∨ k = j) (upd (upd hp i none) j (some b)) w := by
  have hij : i ≠ j := fun e => hj (e ▸ hs.dom i b hb)
  have hρ : ∀ k, A k → (fun k => if k = j then ρ i else ρ k) k = ρ k := by
    intro k hk
    have : k ≠ j := fun e => hj (e ▸ hk)
    simp [this]
  have back : ∀ k c, upd (upd hp i none) j (some b) k = some c → (k = j ∧ c = b) ∨ (k ≠ j ∧ k ≠ i ∧ hp k = some c) := by
    intro k c h
    by_cases e : k = j
    · subst e; simp [upd] at h; exact .inl ⟨rfl, h.symm⟩
    · by_cases e' : k = i
      · subst e'; simp [upd, e] at h
      · simp [upd, e, e'] at h; exact .inr ⟨e, e', h⟩
  refine ⟨?_, ?_, ?_, ?_, ?_⟩
  · intro k c hc ho
    rcases back k c hc with ⟨rfl, rfl⟩ | ⟨e1, e2, hc⟩
    · simp only [if_true]
      obtain ⟨h1, rest, hr, h2⟩ := hs.own i c hb ho
      exact ⟨h1, rest, hr, by rw [cellsOf_congr hρ (hs.inA i c hb)]; exact h2⟩
    · simp only [if_neg e1]
      obtain ⟨h1, rest, hr, h2⟩ := hs.own k c hc ho
      exact ⟨h1, rest, hr, by rw [cellsOf_congr hρ (hs.inA k c hc)]; exact h2⟩
  · intro k c hc ho o v hv
    rcases back k c hc with ⟨rfl, rfl⟩ | ⟨e1, e2, hc⟩
    · simp only [if_true]
      rw [cellsOf_congr hρ (hs.inA i c hb)] at hv
      exact hs.view i c hb ho o v hv
    · simp only [if_neg e1]
      rw [cellsOf_congr hρ (hs.inA k c hc)] at hv
      exact hs.view k c hc ho o v hv
  · intro k c k' c' hc ho hc' ho' hne
    rcases back k c hc with ⟨e1, e2⟩ | ⟨e1, e2, hk⟩
    · subst e1; subst e2
      rcases back k' c' hc' with ⟨e1', e2'⟩ | ⟨e1', e2', hk'⟩
      · exact absurd e1'.symm hne
      · simp only [if_true, if_neg e1']
        exact hs.inj i c k' c' hb ho hk' ho' (Ne.symm e2')
    · rcases back k' c' hc' with ⟨e1', e3'⟩ | ⟨e1', e2', hk'⟩
      · subst e1'; subst e3'
        simp only [if_true, if_neg e1]
        exact hs.inj k c i c' hk ho hb ho' e2
      · simp only [if_neg e1, if_neg e1']
        exact hs.inj k c k' c' hk ho hk' ho' hne
  · intro k c hc
    rcases back k c hc with ⟨e1, _⟩ | ⟨e1, e2, hk⟩
    · exact .inr e1
    · exact .inl (hs.dom k c hk)
  · intro k c hc
    rcases back k c hc with ⟨e1, e2⟩ | ⟨e1, e2, hk⟩
    · subst e2
      exact segsInA_mono (fun _ h => .inl h) (hs.inA i c hb)
    · exact segsInA_mono (fun _ h => .inl h) (hs.inA k c hk)

theorem growBy_le (n : Nat) : ∀ (r c : Nat), c ≤ 2 * n + 1000 → Builtin.growBy n r c ≤ 2 * n + 1000
  | 0, c, h => h
  | r + 1, c, h => by
    unfold Builtin.growBy
    split
    · exact h
    · exact growBy_le n r _ (by omega)

theorem nextslicecap_le {n c : Nat} (h : c < n) : Builtin.nextslicecap n c ≤ 2 * n + 1000 := by
  unfold Builtin.nextslicecap
  split
  · omega
  · split
    · omega
    · exact growBy_le n 4 c (by omega)

theorem wholeOf_spec {b : Blk} {a : XA} {s : Bool} {n : Nat} {ns : List Prop} {m : List Seg} (h : wholeOf b a s n = some (ns, m)) (hn : ∀ p ∈ ns, p) :
    a.dyn = none ∧ segsLen m = n ∧ (∀ A, segsInA A b.segs → segsInA A m) ∧ ∃ x z : List Seg, cellsOf ρ b.segs = cellsOf ρ x ++ (cellsOf ρ m ++ cellsOf ρ z) ∧ segsLen x = a.off := by
  unfold wholeOf at h
  split at h
  · cases h
  · rename_i hd
    split at h
    · split at h
      · rename_i x r hx
        split at h
        · rename_i y z hy
          simp at h; obtain ⟨rfl, rfl⟩ := h
          have e1 := split_spec ρ hx
          have e2 := split_spec ρ hy
          exact ⟨hd, e2.2, fun A hA => (split_inA hy (split_inA hx hA).2).1, x, z, by rw [e1.1, e2.1], e1.2⟩
        · cases h
      · cases h
    · split at h
      · rename_i h0
        simp at h; obtain ⟨rfl, rfl⟩ := h
        exact ⟨hd, hn _ List.mem_cons_self, fun _ h => h, [], [], by simp [cellsOf], by rw [h0]; rfl⟩
      · cases h

/-- What is appended, in whatever world that shows the same memory. -/
theorem srcRow_spec {e : TypeId} {x : SV} {u : Value} {k : List Prop → Nat → Bool → List Seg → Rd} {r : Res} {l : List Nat} (h : (srcRow E e x k).run hp = some (r, l)) (hs : HSim ρ A hp w) (hx : R ρ A x u) :
    ∃ ns n s m l', (k ns n s m).run hp = some (r, l') ∧ (∀ w0 : World, (Builtin.lenOf u).run E.P w0 = .ok n w0) ∧ ((∀ p ∈ ns, p) → segsInA A m ∧ segsLen m = n * E.P.cellsOf e ∧
      ∀ w0 : World, w0.heap = w.heap → (Builtin.firstCells (E.P.cellsOf e) n u).run E.P w0 = .ok (cellsOf ρ m).toArray w0) := by
  unfold srcRow at h
  split at h
  · refine ⟨_, _, _, _, _, h, fun w0 => by rw [hx.2]; rfl, fun _ => ⟨fun g hg => by simp at hg, by simp [segsLen], fun w0 _ => ?_⟩⟩
    rw [hx.2]
    simp [V.enc, SC.enc, Builtin.firstCells, cellsOf]
  · rename_i a s n cap
    obtain ⟨b, l', hb, h⟩ := run_get h
    split at h
    · rename_i ns m hm
      refine ⟨_, _, _, _, _, h, fun w0 => by rw [hx.2]; rfl, fun hns => ?_⟩
      obtain ⟨hd, e1, e2, x', z, e3, e4⟩ := wholeOf_spec (ρ := ρ) hm hns
      refine ⟨e2 A (hs.inA _ _ hb), e1, fun w0 hw => ?_⟩
      have hs0 : HSim ρ A hp w0 := by
        refine ⟨fun id b hb ho => by rw [hw]; exact hs.own id b hb ho, fun id b hb ho j v hv => ?_, hs.inj, hs.dom, hs.inA⟩
        rw [cell?_congr (w := w) (by rw [hw])]
        exact hs.view id b hb ho j v hv
      rw [hx.2]
      simp only [V.enc, SC.enc, Builtin.firstCells]
      rw [XA.enc, show a.o = a.off by simp [XA.o, hd]]
      exact hs0.loadCells hb e3 e4 e1
    · cases h
  · rename_i s b
    split at h
    · rename_i hq
      split at h
      · rename_i h1
        refine ⟨_, _, _, _, _, h, fun w0 => by rw [hx.2]; rfl, fun _ => ⟨fun g hg => by simp at hg; subst hg; trivial, by simp [segsLen, Seg.len, h1], fun w0 _ => ?_⟩⟩
        rw [hx.2]
        simp only [V.enc, SC.enc, Builtin.firstCells, Sem.run_pure]
        rw [byteAt_spec b b.size (Nat.le_refl _)]
        simp [cellsOf, Seg.cells]
      · cases h
    · cases h
  · cases h


theorem zeroCells_length (z : Array Value) (n : Nat) : (Builtin.zeroCells z n).toList.length = n * z.size := by simp [Builtin.zeroCells]

set_option maxHeartbeats 1000000 in
theorem appendx_ok {t t2 : TypeId} {x y : SV} {u v : Value} (hs : HSim ρ A hp w) (hx : R ρ A x u) (hy : R ρ A y v) (hf : ∀ j, fid ≤ j → j < fid + 32 → ¬ A j)
    (h : ∀ c, ∃ r l, (appendx E t t2 x y fid c).run hp = some (r, l) ∧ Post ρ A hp w fid r next) (ty : TypeId) :
    ∃ z w', (Builtin.append_ #[t, t2] ty #[u, v]).run E.P w = .ok z w' ∧ next z w' := by
  have hnf : ¬ A fid := hf fid (Nat.le_refl _) (by omega)
  unfold appendx at h
  cases ht : E.P.underlying t with
  | none => obtain ⟨r, l, hr, _⟩ := h 0; simp [ht, Rd.run] at hr
  | some td =>
  cases ht2 : E.P.underlying t2 with
  | none => obtain ⟨r, l, hr, _⟩ := h 0; simp only [ht, ht2] at hr; cases td <;> simp [Rd.run] at hr
  | some q =>
  simp only [ht, ht2] at h
  obtain ⟨e, rfl⟩ : ∃ e, td = .slice e := by
    obtain ⟨r, l, hr, _⟩ := h 0
    cases td <;> first | exact ⟨_, rfl⟩ | (simp [Rd.run] at hr; done)
  simp only [] at h
  have hzq : isIntD q = false := by
    obtain ⟨r, l, hr, _⟩ := h 0
    cases hq : isIntD q with
    | false => rfl
    | true => rw [hq] at hr; cases hr
  simp only [hzq, Bool.false_eq_true, if_false] at h
  cases hue : E.P.underlying e with
  | none => obtain ⟨r, l, hr, _⟩ := h 0; simp [hue, Rd.run] at hr
  | some ud =>
  cases hz : zeroV E e with
  | none => obtain ⟨r, l, hr, _⟩ := h 0; simp [hue, hz, Rd.run] at hr
  | some z =>
  simp only [hue, hz] at h
  by_cases hc : segsLen z = E.P.cellsOf e ∧ 0 < E.P.cellsOf e ∧ 0 < E.P.bytesOf e
  case neg => obtain ⟨r, l, hr, _⟩ := h 0; rw [if_neg hc] at hr; cases hr
  simp only [if_pos hc] at h
  obtain ⟨hc1, hc2, hc3⟩ := hc
  obtain ⟨i, hi⟩ := und_info hue
  have hbytes : E.P.bytesOf e = i.bytes := by simp [Program.bytesOf, hi]
  obtain ⟨r00, l00, h00, _⟩ := h 0
  obtain ⟨_, n, _, _, _, _, hlen, _⟩ := srcRow_spec (E := E) (w := w) h00 hs hy
  have h2 : ∀ c, ∃ r ns s m l', (appendK E e x fid c ns n s m).run hp = some (r, l') ∧ ((∀ p ∈ ns, p) → segsInA A m ∧ segsLen m = n * E.P.cellsOf e ∧
      ∀ w0 : World, w0.heap = w.heap → (Builtin.firstCells (E.P.cellsOf e) n v).run E.P w0 = .ok (cellsOf ρ m).toArray w0) ∧ Post ρ A hp w fid r next := by
    intro c
    obtain ⟨r, l, hr, hP⟩ := h c
    obtain ⟨ns, n', s, m, l', hk, hlen', hcells⟩ := srcRow_spec (E := E) (w := w) hr hs hy
    have hnn : n' = n := by
      have := (hlen' w).symm.trans (hlen w)
      simpa using this
    subst hnn
    exact ⟨r, ns, s, m, l', hk, hcells, hP⟩
  clear h h00
  have fits : ∀ (base : Option Addr) (sLen sCap : Nat) (cs : Array Value), u = .slice base sLen sCap → sLen + n ≤ sCap → (Builtin.firstCells (E.P.cellsOf e) n v).run E.P w = .ok cs w → (Builtin.append_ #[t, t2] ty #[u, v]).run E.P w =
      (match base with
        | some a => (do storeCells (a.add (sLen * E.P.cellsOf e)) cs.toList; pure (.slice base (sLen + n) sCap) : Sem Value)
        | none => pure (.slice base (sLen + n) sCap)).run E.P w := by
    intro base sLen sCap cs hu hfit hcs
    subst hu
    cases q <;> first | (simp [isIntD] at hzq; done) | skip
    all_goals
      simp only [Builtin.append_, List.getElem?_toArray, List.getElem?_cons_zero, List.getElem?_cons_succ, Sem.run_bind, run_und ht, run_und ht2, run_size hue, Result.andThen_ok, Sem.run_pure, Bool.false_eq_true, if_false, hlen, hfit, if_true, Bool.not_false, hcs]
      cases base <;> simp only [Sem.run_bind, Result.andThen_ok, Sem.run_pure]
  have grows : ∀ (base : Option Addr) (sLen sCap : Nat) (old cs : Array Value) (zv : Value) (nc : Nat), u = .slice base sLen sCap → ¬ sLen + n ≤ sCap → (sLen + n) * E.P.bytesOf e ≤ 137438953472 →
      nc = Question.cut (.appendCap (sLen + n) sCap e) (w.tape w.drawn (.appendCap (sLen + n) sCap e)) →
      (Builtin.firstCells (E.P.cellsOf e) sLen u).run E.P { w with drawn := w.drawn + 1 } = .ok old { w with drawn := w.drawn + 1 } →
      (Builtin.firstCells (E.P.cellsOf e) n v).run E.P { w with drawn := w.drawn + 1 } = .ok cs { w with drawn := w.drawn + 1 } →
      (zeroValue e).run E.P { w with drawn := w.drawn + 1 } = .ok zv { w with drawn := w.drawn + 1 } →
      (Builtin.append_ #[t, t2] ty #[u, v]).run E.P w =
        .ok (.slice (some ⟨w.heap.size, 0, none⟩) (sLen + n) nc) (World.newBlk { w with drawn := w.drawn + 1 } (.cells (old ++ cs ++ Builtin.zeroCells zv.cells (nc - (sLen + n))) e (0, 0))) := by
    intro base sLen sCap old cs zv nc hu hfit hbound hnc hold hcs hzv
    subst hu
    have hb0 : ¬ i.bytes = 0 := by omega
    have hsl : ¬ (Builtin.nextslicecap (sLen + n) sCap * i.bytes > 2 ^ 48) := by
      have h1 := nextslicecap_le (n := sLen + n) (c := sCap) (by omega)
      have h3 := Nat.mul_le_mul_right i.bytes h1
      rw [hbytes] at hbound hc3
      have h4 : 1 * i.bytes ≤ (sLen + n) * i.bytes := Nat.mul_le_mul_right _ (by omega)
      have h5 : (2 * (sLen + n) + 1000) * i.bytes = 2 * ((sLen + n) * i.bytes) + 1000 * i.bytes := by rw [Nat.add_mul, Nat.mul_assoc]
      omega
    cases q <;> first | (simp [isIntD] at hzq; done) | skip
    all_goals
      simp only [Builtin.append_, List.getElem?_toArray, List.getElem?_cons_zero, List.getElem?_cons_succ, Sem.run_bind, run_und ht, run_und ht2, run_size hue, Result.andThen_ok, Sem.run_pure, Bool.false_eq_true, if_false, hlen, hfit, Bool.not_false, run_info hi, hb0, or_self, and_false, hsl]
      simp only [run_choose, Question.forced, Bool.false_eq_true, if_false, Result.andThen_ok, ← hnc, run_askRoom, hold, hcs, hzv, if_true, newRow, Sem.run_bind, run_newObj, Sem.run_pure]
      rfl
  obtain ⟨zv, hzv, hzc, _⟩ := zeroV_spec hz ρ { w with drawn := w.drawn + 1 }
  have hzlen : zv.cells.size = E.P.cellsOf e := by rw [hzc]; simp [cellsOf_length, hc1]
  have hcut : ∀ need old, need ≤ Question.cut (.appendCap need old e) (w.tape w.drawn (.appendCap need old e)) := fun need old => by simp [Question.cut]
  obtain ⟨r0, ns0, s0, m0, l0, hk0, _, _⟩ := h2 0
  unfold appendK at hk0
  split at hk0
  · clear hk0
    have hu : u = .slice none 0 0 := hx.2
    by_cases hn0 : n = 0
    · subst hn0
      obtain ⟨r, ns, s, m, l', hk, hcells, hP⟩ := h2 0
      unfold appendK at hk
      simp only [] at hk
      split at hk
      · obtain rfl := run_retVN hk
        obtain ⟨hns, _⟩ := hP (by simp)
        obtain ⟨_, _, hc⟩ := hcells hns
        have hf0 := fits none 0 0 _ hu (Nat.le_refl _) (hc w rfl)
        exact ⟨.slice none 0 0, w, by simpa using hf0, (post_same hs hP rfl rfl rfl fun _ => ⟨trivial, rfl⟩).2⟩
      · obtain rfl := run_ret hk
        obtain ⟨hns, _⟩ := hP (by simp)
        have : 1 ≤ 0 := hns (1 ≤ 0) (by simp)
        omega
    · obtain ⟨nc, hnc⟩ : ∃ nc, Question.cut (.appendCap (0 + n) 0 e) (w.tape w.drawn (.appendCap (0 + n) 0 e)) = nc := ⟨_, rfl⟩
      have hge := hcut (0 + n) 0
      rw [hnc] at hge
      obtain ⟨r, ns, s, m, l', hk, hcells, hP⟩ := h2 nc
      unfold appendK at hk
      simp only [hn0, decide_false, Bool.and_false, Bool.false_eq_true, if_false] at hk
      obtain rfl := run_ret hk
      have hasm : ∀ p ∈ [n ≤ nc], p := by intro p hp'; rw [List.mem_singleton] at hp'; subst hp'; omega
      obtain ⟨hns, _⟩ := hP hasm
      obtain ⟨hmA, hml, hc⟩ := hcells (fun p hp => hns p (by simp [hp]))
      have hbd : n * E.P.bytesOf e ≤ 137438953472 := hns (n * E.P.bytesOf e ≤ 137438953472) (by simp)
      have hnl : ¬ 0 + n ≤ 0 := fun h => hn0 (Nat.le_zero.1 (Nat.zero_add n ▸ h))
      have hg := grows none 0 0 #[] _ zv nc hu hnl (by rw [Nat.zero_add]; exact hbd) hnc.symm (by rw [hu]; simp [Builtin.firstCells]) (hc _ rfl) hzv
      refine ⟨_, _, hg, ?_⟩
      have := post_new hs hmA hf (rest := (Builtin.zeroCells zv.cells (nc - n)).toList) (by rw [zeroCells_length, hzlen]) hP hasm (v := .slice (some ⟨w.heap.size, 0, none⟩) (0 + n) nc) ⟨.inr rfl, by simp [V.enc, SC.enc, XA.enc, XA.o, Addr.add_zero]⟩
        { w with drawn := w.drawn + 1 } rfl rfl rfl rfl
      have ec : (cellsOf ρ m ++ (Builtin.zeroCells zv.cells (nc - n)).toList).toArray = (#[] ++ (cellsOf ρ m).toArray ++ Builtin.zeroCells zv.cells (nc - (0 + n))) := by
        rw [Nat.zero_add]; apply Array.ext'; simp
      rwa [ec] at this
  · rename_i a sa la ca _
    clear hk0
    obtain ⟨hA, hu⟩ := hx
    have hu : u = .slice (some (a.enc ρ)) la ca := hu
    have open_ : ∀ c, ∃ r ns s m b ms mm, hp a.id = some b ∧ b.own = true ∧ b.ty = e ∧ a.off = 0 ∧ wholeOf b a sa (la * E.P.cellsOf e) = some (ms, mm) ∧
        r = (⟨[la + n ≤ c], ns ++ (ms ++ [segsLen b.segs = la * E.P.cellsOf e, ca * E.P.cellsOf e = segsLen b.segs + b.extra, (la + n) * E.P.bytesOf e ≤ 137438953472]),
          .ev (.sc (.slc ⟨fid, 0, none⟩ (s && sa) (la + n) c)), [(a.id, none)], [⟨mm ++ m, (c - (la + n)) * E.P.cellsOf e, e, true⟩]⟩ : Res) ∧
        ((∀ p ∈ ns, p) → segsInA A m ∧ segsLen m = n * E.P.cellsOf e ∧ ∀ w0 : World, w0.heap = w.heap → (Builtin.firstCells (E.P.cellsOf e) n v).run E.P w0 = .ok (cellsOf ρ m).toArray w0) ∧ Post ρ A hp w fid r next := by
      intro c
      obtain ⟨r, ns, s, m, l', hk, hcells, hP⟩ := h2 c
      unfold appendK at hk
      simp only [] at hk
      obtain ⟨b, l2, hb, hk⟩ := run_get hk
      split at hk
      · rename_i hcond
        simp only [Bool.and_eq_true, decide_eq_true_eq] at hcond
        split at hk
        · rename_i ms mm hw
          exact ⟨r, ns, s, m, b, ms, mm, hb, hcond.1.1, hcond.1.2, hcond.2, hw, run_ret hk, hcells, hP⟩
        · cases hk
      · cases hk
    have mul : ∀ x y : Nat, (x - y) * E.P.cellsOf e = x * E.P.cellsOf e - y * E.P.cellsOf e := fun x y => Nat.sub_mul x y _
    have encl : a.off = 0 → a.dyn = none → a.enc ρ = ρ a.id := fun h0 hd => by simp [XA.enc, XA.o, hd, h0, Addr.add_zero]
    by_cases hfit : la + n ≤ ca
    · obtain ⟨r, ns, s, m, b, ms, mm, hb, hown, hty, hoff, hwh, rfl, hcells, hP⟩ := open_ ca
      have hasm : ∀ p ∈ [la + n ≤ ca], p := by intro p hp; simp at hp; rw [hp]; exact hfit
      obtain ⟨hns, hk⟩ := hP hasm
      obtain ⟨hmA, hml, hc⟩ := hcells (fun p hp => hns p (by simp [hp]))
      have n1 : segsLen b.segs = la * E.P.cellsOf e := hns _ (by simp)
      have n2 : ca * E.P.cellsOf e = segsLen b.segs + b.extra := hns _ (by simp)
      obtain ⟨hd, w1, w2, X, Z, w3, w4⟩ := wholeOf_spec (ρ := ρ) hwh (fun p hp => hns p (by simp [hp]))
      have hX : cellsOf ρ X = [] := List.eq_nil_of_length_eq_zero (by rw [cellsOf_length, w4, hoff])
      have hZ : cellsOf ρ Z = [] := by
        have := congrArg List.length w3
        simp [cellsOf_length] at this
        exact List.eq_nil_of_length_eq_zero (by rw [cellsOf_length]; omega)
      have hwm : cellsOf ρ b.segs = cellsOf ρ mm := by rw [w3, hX, hZ]; simp
      obtain ⟨h1, rest, hr, hheap⟩ := hs.own _ b hb hown
      have hle : (la + n) * E.P.cellsOf e ≤ ca * E.P.cellsOf e := Nat.mul_le_mul_right _ hfit
      rw [Nat.add_mul] at hle
      have hst := run_storeCells (P := E.P) (ρ a.id).block b.ty (cellsOf ρ m) (cellsOf ρ b.segs) rest w (la * E.P.cellsOf e) 0 (cellsOf_one m) hheap (by rw [cellsOf_length, n1]; omega) (by rw [cellsOf_length, hml]; omega)
      have hf0 := fits (some (a.enc ρ)) la ca _ hu hfit (hc w rfl)
      simp only [Sem.run_bind, encl hoff hd, own_add h1, hst, Result.andThen_ok, Sem.run_pure] at hf0
      refine ⟨_, _, hf0, ?_⟩
      have hput := hs.put hb hown (segs := mm ++ m) (fun g hg => by
        rcases List.mem_append.1 hg with hg | hg
        · exact w2 A (hs.inA _ _ hb) g hg
        · exact hmA g hg) (rest := rest.drop (cellsOf ρ m).length) (extra := (ca - (la + n)) * E.P.cellsOf e) (by rw [List.length_drop, cellsOf_length, hml, mul, Nat.add_mul]; omega)
      have hmv := hput.move (i := a.id) (j := fid) (b := { b with segs := mm ++ m, extra := (ca - (la + n)) * E.P.cellsOf e }) (by simp [upd]) hnf
      have hhp : upd (upd (upd hp a.id (some { b with segs := mm ++ m, extra := (ca - (la + n)) * E.P.cellsOf e })) a.id none) fid (some { b with segs := mm ++ m, extra := (ca - (la + n)) * E.P.cellsOf e }) =
          upd (upd hp a.id none) fid (some ⟨mm ++ m, (ca - (la + n)) * E.P.cellsOf e, e, true⟩) := by
        have hb' : ({ b with segs := mm ++ m, extra := (ca - (la + n)) * E.P.cellsOf e } : Blk) = ⟨mm ++ m, (ca - (la + n)) * E.P.cellsOf e, e, true⟩ := by rw [← hty, ← hown]
        rw [hb']
        funext k
        simp only [upd]
        split
        · rfl
        · split <;> rfl
      rw [hhp] at hmv
      have ew : (cellsOf ρ (mm ++ m) ++ rest.drop (cellsOf ρ m).length) = (cellsOf ρ b.segs ++ (cellsOf ρ m ++ rest.drop (cellsOf ρ m).length)) := by rw [cellsOf_append, hwm, List.append_assoc]
      rw [ew] at hmv
      refine hk _ _ _ _ ⟨fun k hk => ?_, fun k hk => .inl hk, fun k hk => ?_⟩ hmv ⟨.inr rfl, ?_⟩ ((Fr.putBlk hheap).mono fun j _ hj => ⟨a.id, ⟨none, by simp⟩, hj⟩) (fun k h1 h2 => ?_)
      · have : k ≠ fid := fun e => hnf (e ▸ hk)
        simp [this]
      · rcases hk with hk | rfl
        · exact .inl hk
        · exact .inr ⟨Nat.le_refl _, by omega⟩
      · simp [V.enc, SC.enc, XA.enc, XA.o, Addr.add_zero]
      · rcases h1 with h1 | rfl
        · exact absurd h1 h2
        · right; exact ⟨a.id, ⟨none, by simp⟩, by simp⟩
    · obtain ⟨r, ns, s, m, b, ms, mm, hb, hown, hty, hoff, hwh, rfl, hcells, hP⟩ := open_ (Question.cut (.appendCap (la + n) ca e) (w.tape w.drawn (.appendCap (la + n) ca e)))
      have hge := hcut (la + n) ca
      obtain ⟨nc, hnc⟩ : ∃ nc, Question.cut (.appendCap (la + n) ca e) (w.tape w.drawn (.appendCap (la + n) ca e)) = nc := ⟨_, rfl⟩
      rw [hnc] at hP hge
      have hasm : ∀ p ∈ [la + n ≤ nc], p := by intro p hp; simp at hp; rw [hp]; exact hge
      obtain ⟨hns, hk⟩ := hP hasm
      obtain ⟨hmA, hml, hc⟩ := hcells (fun p hp => hns p (by simp [hp]))
      have hbd : (la + n) * E.P.bytesOf e ≤ 137438953472 := hns ((la + n) * E.P.bytesOf e ≤ 137438953472) (by simp)
      obtain ⟨hd, w1, w2, X, Z, w3, w4⟩ := wholeOf_spec (ρ := ρ) hwh (fun p hp => hns p (by simp [hp]))
      have hsd : HSim ρ A hp { w with drawn := w.drawn + 1 } := hs.frame (D := fun _ => False) ⟨rfl, rfl, rfl, Nat.le_refl _, fun _ _ _ => rfl, fun _ => rfl⟩ (fun _ _ _ h => h)
      have hold : (Builtin.firstCells (E.P.cellsOf e) la u).run E.P { w with drawn := w.drawn + 1 } = .ok (cellsOf ρ mm).toArray { w with drawn := w.drawn + 1 } := by
        rw [hu]
        simp only [Builtin.firstCells, XA.enc, show a.o = a.off by simp [XA.o, hd]]
        exact hsd.loadCells hb w3 w4 w1
      have hg := grows (some (a.enc ρ)) la ca _ _ zv nc hu hfit hbd hnc.symm hold (hc _ rfl) hzv
      refine ⟨_, _, hg, ?_⟩
      have hsA : segsInA A (mm ++ m) := fun g hg => by
        rcases List.mem_append.1 hg with hg | hg
        · exact w2 A (hs.inA _ _ hb) g hg
        · exact hmA g hg
      have hnew := hsd.new hnf (segs := mm ++ m) (ty := e) hsA (rest := (Builtin.zeroCells zv.cells (nc - (la + n))).toList) (extra := (nc - (la + n)) * E.P.cellsOf e) (by rw [zeroCells_length, hzlen])
      have ec : (cellsOf ρ (mm ++ m) ++ (Builtin.zeroCells zv.cells (nc - (la + n))).toList).toArray = ((cellsOf ρ mm).toArray ++ (cellsOf ρ m).toArray ++ Builtin.zeroCells zv.cells (nc - (la + n))) := by
        rw [cellsOf_append]; apply Array.ext'; simp
      rw [ec] at hnew
      have hdrop := hnew.drop (hp' := upd (upd hp a.id none) fid (some ⟨mm ++ m, (nc - (la + n)) * E.P.cellsOf e, e, true⟩)) (fun k c h => by
        simp only [upd] at h ⊢
        split
        · rename_i e; rw [if_pos e] at h; exact h
        · rename_i e
          rw [if_neg e] at h
          split at h
          · cases h
          · exact h)
      refine hk _ _ _ _ ⟨fun k hk => ?_, fun k hk => .inl hk, fun k hk => ?_⟩ hdrop ⟨.inr rfl, ?_⟩ ⟨rfl, rfl, rfl, by simp [World.newBlk], fun k hk _ => newBlk_old hk, fun x => ((Fr.newBlk (fun _ => False) { w with drawn := w.drawn + 1 } _ _).fz x)⟩ (fun k h1 h2 => ?_)
      · have : k ≠ fid := fun e => hnf (e ▸ hk)
        simp [this]
      · rcases hk with hk | rfl
        · exact .inl hk
        · exact .inr ⟨Nat.le_refl _, by omega⟩
      · simp [V.enc, SC.enc, XA.enc, XA.o, Addr.add_zero]
      · rcases h1 with h1 | rfl
        · exact absurd h1 h2
        · left; simp
  · cases hk0

theorem callx_ok {f : SV} {args : List SV} {us : List Value} {uf : Value} {next' : Ending → World → Prop} (hE : ∀ g M, E.F g = some M → (∃ fn, E.P.funcs[g]? = some fn ∧ (fn.name == "runtime.NumGoroutine") = false ∧ fn.body.isNone = false) ∧
      ∀ (args : List V) (ρ : Nat → Addr) (A : Nat → Prop) (hp : Hp) (w : World) (fid : Nat) (Q : Ending → World → Prop), HSim ρ A hp w → (∀ v ∈ args, v.inA A) → (∀ j, fid ≤ j → j < fid + 32 → ¬ A j) →
        (∀ c, ∃ r l, (M args fid c).run hp = some (r, l) ∧ Post ρ A hp w fid r (fun v w' => Q (.returned v) w')) → Calls E.P g (args.map (V.enc ρ)).toArray w Q)
    (hs : HSim ρ A hp w) (hfv : R ρ A f uf) (hx : ∀ (i : Nat) (x : SV), args[i]? = some x → ∃ u, us[i]? = some u ∧ R ρ A x u) (hl : us.length = args.length) (hf : ∀ j, fid ≤ j → j < fid + 32 → ¬ A j)
    (h : ∀ c, ∃ r l, (callx E f args fid c).run hp = some (r, l) ∧ Post ρ A hp w fid r (fun v w' => next' (.returned v) w')) :
    ∃ g all, ((do let d ← Deferred.ofValue uf us.toArray; invoke d.target d.args) : Sem Next).run E.P w = .ok (.enter g all) w ∧ Calls E.P g all w next' := by
  obtain ⟨r0, l0, h0, _⟩ := h 0
  unfold callx at h h0
  split at h0
  case h_2 => cases h0
  rename_i g first cap vs hvs
  simp only [hvs] at h
  split at h0
  case h_2 => cases h0
  rename_i M hM
  simp only [hM] at h
  obtain ⟨e1, e2⟩ := mapV_spec hvs hx hl
  obtain ⟨⟨fn, hfn, hname, hbody⟩, hcall⟩ := hE g M hM
  obtain ⟨⟨hfi, hci⟩, huf⟩ := hfv
  refine ⟨g, ((first.map V.sc ++ vs ++ cap.map V.sc).map (V.enc ρ)).toArray, ?_, hcall _ ρ A hp w fid next' hs ?_ hf h⟩
  · rw [huf]
    have ef : ∀ l : List SC, (l.map V.sc).map (V.enc ρ) = l.map (SC.enc ρ) := by
      intro l; rw [List.map_map]; rfl
    simp only [V.enc, Deferred.ofValue, Sem.run_bind, Sem.run_pure, Result.andThen_ok, invoke, callFunc, run_program, hfn, hname, hbody, Bool.false_eq_true, if_false]
    congr 2
    rw [e1, List.map_append, List.map_append, ef, ef]
    simp
  · intro v hv
    simp only [List.mem_append, List.mem_map] at hv
    rcases hv with (⟨s, hs, rfl⟩ | hv) | ⟨s, hs, rfl⟩
    · exact hfi s hs
    · exact e2 v hv
    · exact hci s hs

end
end Go.X
