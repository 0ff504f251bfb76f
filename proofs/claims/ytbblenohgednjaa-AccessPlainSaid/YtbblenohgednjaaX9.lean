import Derived.Test.YtbblenohgednjaaX8
/- A part of the walking machine: shown once for every program of the model; no condition of its own. -/
/- That these do what their words say. -/
namespace Go.X

section
variable {E : Env} {ρ : Nat → Addr} {A : Nat → Prop} {hp : Hp} {w : World} {fid : Nat} {next : Value → World → Prop}

theorem run_allKnown {fs : List Field} (h : allKnown E.P fs = true) : (fs.toArray.mapM (m := Sem) fun f => do pure (f.offset, ← sizeOf f.type)).run E.P w = .ok (fieldPlaces E.P fs.toArray) w := by
  rw [List.mapM_toArray]
  have key : (fs.mapM (m := Sem) fun f => do pure (f.offset, ← sizeOf f.type)).run E.P w = .ok (fs.map fun f => (f.offset, E.P.cellsOf f.type)) w := by
    induction fs with
    | nil => simp
    | cons f r ih =>
      simp only [allKnown, Bool.and_eq_true] at h
      obtain ⟨d, hd⟩ := Option.isSome_iff_exists.1 h.1
      rw [List.mapM_cons]
      simp only [Sem.run_bind, run_size hd, Result.andThen_ok, Sem.run_pure, ih h.2, List.map_cons]
  rw [Sem.run_map, key]
  simp [fieldPlaces]

theorem buildx_ok {t : TypeId} {parts : Array (Nat × Operand)} {ov : Operand → SV} {ev : Operand → Value} {r : Res} {l : List Nat} (h : (buildx E t parts ov).run hp = some (r, l)) (hs : HSim ρ A hp w) (hov : ∀ x, R ρ A (ov x) (ev x)) (hP : Post ρ A hp w fid r next) :
    ∃ v, (Instr.build t (parts.map fun (i, x) => (i, ev x))).run E.P w = .ok v w ∧ next v w := by
  unfold buildx at h
  have hmap : (parts.map fun (i, x) => (i, ev x)).toList = parts.toList.map fun p => (p.1, ev p.2) := by simp
  split at h
  · rename_i z fs hz ht
    obtain ⟨zv, z1, z2, z3⟩ := zeroV_spec hz ρ w
    split at h
    · rename_i hk
      cases hp' : placeAll ov ((fieldPlaces E.P fs)[·]?) parts.toList z with
      | none => simp [hp', optRd, Rd.run] at h
      | some l' =>
        simp only [hp', Option.map_some, optRd] at h
        obtain rfl := run_retV h
        obtain ⟨f1, f2, _⟩ := placeAll_spec hov hp' (z3 A)
        refine ⟨_, ?_, post_ret hs hP ⟨fuse_inA f2, rfl⟩⟩
        have hm := run_allKnown (E := E) (w := w) hk
        simp only [Instr.build, Sem.run_bind, z1, Result.andThen_ok, run_und ht]
        rw [show fs = fs.toList.toArray from rfl, hm]
        simp only [Result.andThen_ok, z2, hmap, f1, Sem.run_pure, V.enc, fuse_spec]
    · cases h
  · rename_i z n e hz ht
    obtain ⟨zv, z1, z2, z3⟩ := zeroV_spec hz ρ w
    split at h
    · rename_i q hq
      cases hp' : placeAll ov (fun i => some (i * E.P.cellsOf e, E.P.cellsOf e)) parts.toList z with
      | none => simp [hp', optRd, Rd.run] at h
      | some l' =>
        simp only [hp', Option.map_some, optRd] at h
        obtain rfl := run_retV h
        obtain ⟨f1, f2, _⟩ := placeAll_spec hov hp' (z3 A)
        refine ⟨_, ?_, post_ret hs hP ⟨fuse_inA f2, rfl⟩⟩
        simp only [Instr.build, Sem.run_bind, z1, Result.andThen_ok, run_und ht, run_size hq, z2, hmap, f1, Sem.run_pure, V.enc, fuse_spec]
    · cases h
  · cases h

/-- New rows. -/
theorem post_new {g : List Seg} {t : TypeId} {sv : SV} {asm need : List Prop} (hs : HSim ρ A hp w) (hA : segsInA A g) (hf : ∀ j, fid ≤ j → j < fid + 32 → ¬ A j) {rest : List Value} {extra : Nat} (hr : rest.length = extra)
    (hP : Post ρ A hp w fid ⟨asm, need, sv, [], [⟨g, extra, t, true⟩]⟩ next) (ha : ∀ p ∈ asm, p) {v : Value}
    (hv : R (fun j => if j = fid then ⟨w.heap.size, 0, none⟩ else ρ j) (fun j => A j ∨ j = fid) sv v) (w0 : World) (hw : w0.heap = w.heap) (hos : w0.os = w.os) (hta : w0.tape = w.tape) (hou : w0.output = w.output) :
    next v (World.newBlk w0 (.cells (cellsOf ρ g ++ rest).toArray t (0, 0))) := by
  have hn : ¬ A fid := hf fid (Nat.le_refl _) (by omega)
  have hs0 : HSim ρ A hp w0 := hs.frame (D := fun _ => False) ⟨hos, hta, hou, by rw [hw]; exact Nat.le_refl _, fun k _ _ => by rw [hw], fun a => by simp [World.frozen?, hw]⟩ (fun _ _ _ h => h)
  have hnew := hs0.new hn (segs := g) (ty := t) hA (rest := rest) hr
  rw [hw] at hnew
  refine (hP ha).2 _ _ _ _ ⟨fun i hi => ?_, fun i hi => .inl hi, fun i hi => ?_⟩ hnew hv ⟨hos, hta, hou, by simp [World.newBlk, hw], fun k hk _ => ?_, fun a => ((Fr.newBlk (fun _ => False) w0 _ _).fz a).trans (by simp [World.frozen?, hw])⟩ (fun i h1 h2 => ?_)
  · have : i ≠ fid := fun e => hn (e ▸ hi)
    simp [this]
  · rcases hi with hi | rfl
    · exact .inl hi
    · exact .inr ⟨Nat.le_refl _, by omega⟩
  · rw [← hw] at hk ⊢; exact newBlk_old hk
  · rcases h1 with h1 | rfl
    · exact absurd h1 h2
    · left; simp

theorem mod_row {z : List Value} (hz : z.length ≠ 0) : ∀ n, (List.range (n * z.length)).map (fun i => (z.toArray[i % z.length]! : Value)) = (List.replicate n z).flatten
  | 0 => by simp
  | n + 1 => by
    rw [Nat.succ_mul, List.range_add, List.map_append, mod_row hz n, List.replicate_succ', List.flatten_append, List.flatten_singleton, List.map_map]
    congr 1
    apply List.ext_getElem?
    intro i
    by_cases hi : i < z.length
    · simp [hi, Nat.mod_eq_of_lt hi]
    · simp [hi]

theorem cellsOf_replicate (n : Nat) (z : List Seg) : cellsOf ρ (List.replicate n z).flatten = (List.replicate n (cellsOf ρ z)).flatten := by
  induction n with
  | zero => rfl
  | succ n ih => rw [List.replicate_succ, List.flatten_cons, cellsOf_append, ih, List.replicate_succ, List.flatten_cons]

theorem zero_cells {z : List Seg} {n size : Nat} (hz : segsLen z = size) (hn : size ≠ 0) : (Array.range (n * size)).map (fun i => (((cellsOf ρ z).toArray[i % (cellsOf ρ z).toArray.size]! : Value))) = (cellsOf ρ (List.replicate n z).flatten).toArray := by
  apply Array.ext'
  rw [Array.toList_map, Array.toList_range]
  have hl : (cellsOf ρ z).length = size := by rw [cellsOf_length, hz]
  have := mod_row (z := cellsOf ρ z) (by omega) n
  rw [hl] at this
  simp only [List.size_toArray, hl]
  rw [this, cellsOf_replicate]

theorem buildSlicex_ok {t : TypeId} {len : Nat} {parts : Array (Nat × Operand)} {ov : Operand → SV} {ev : Operand → Value} {r : Res} {l : List Nat} (h : (buildSlicex E t len parts ov fid).run hp = some (r, l)) (hs : HSim ρ A hp w) (hov : ∀ x, R ρ A (ov x) (ev x))
    (hf : ∀ j, fid ≤ j → j < fid + 32 → ¬ A j) (hP : Post ρ A hp w fid r next) :
    ∃ v w', (Instr.buildSlice t len (parts.map fun (i, x) => (i, ev x))).run E.P w = .ok v w' ∧ next v w' := by
  unfold buildSlicex at h
  have hmap : (parts.map fun (i, x) => (i, ev x)).toList = parts.toList.map fun p => (p.1, ev p.2) := by simp
  split at h
  · rename_i e ht
    split at h
    · rename_i z q hz hq
      obtain ⟨zv, z1, z2, z3⟩ := zeroV_spec hz ρ w
      split at h
      · rename_i hc
        obtain ⟨c1, c2, c3⟩ := hc
        split at h
        · rename_i l' hl'
          obtain rfl := run_ret h
          have hzA : segsInA A (List.replicate len z).flatten := by
            intro g hg
            obtain ⟨m, hm, hg⟩ := List.mem_flatten.1 hg
            rw [List.eq_of_mem_replicate hm] at hg
            exact z3 A g hg
          obtain ⟨f1, f2, _⟩ := placeAll_spec hov hl' hzA
          refine ⟨.slice (some ⟨w.heap.size, 0, none⟩) len len, World.newBlk w (.cells (cellsOf ρ l').toArray e (0, 0)), ?_, ?_⟩
          · simp only [Instr.buildSlice, Sem.run_bind, run_und ht, Result.andThen_ok, run_size hq]
            rw [if_neg (by omega)]
            have hrow := zero_cells (ρ := ρ) (z := z) (n := len) c1 c2
            by_cases h0 : len * E.P.cellsOf e = 0
            · have hl0 : len = 0 := by
                rcases Nat.mul_eq_zero.1 h0 with h | h
                · exact h
                · exact absurd h c2
              subst hl0
              simp only [Nat.zero_mul, if_true, Sem.run_bind, Sem.run_pure, Result.andThen_ok]
              simp only [List.replicate_zero, List.flatten_nil] at f1
              rw [show ((Array.range 0).map fun x => ((#[] : Array Value)[x % (#[] : Array Value).size]!)) = (cellsOf ρ []).toArray by simp [cellsOf], hmap, f1]
              simp [newRow, World.newBlk]
            · rw [if_neg h0]
              simp only [Sem.run_bind, z1, Result.andThen_ok, Sem.run_pure, z2]
              rw [hrow, hmap, f1]
              simp [newRow, World.newBlk]
          · have := post_new hs f2 hf (rest := []) rfl hP (by simp) (v := .slice (some ⟨w.heap.size, 0, none⟩) len len) ⟨.inr rfl, by simp [V.enc, SC.enc, XA.enc, XA.o, Addr.add_zero]⟩ w rfl rfl rfl rfl
            rwa [List.append_nil] at this
        · cases h
      · cases h
    · cases h
  · cases h

theorem zeroV_noId {e : TypeId} {z : List Seg} (h : zeroV E e = some z) : cellsOf ρ z = cellsOf (fun _ => default) z := by
  unfold zeroV at h
  split at h
  · split at h
    · rename_i hc
      simp only [Bool.and_eq_true] at hc
      simp at h; subst h
      exact cellsOf_congr (A := fun _ => False) (fun _ h => h.elim) (segsNoId_inA hc.1 _)
    · cases h
  · cases h

theorem zeroRow_spec {e : TypeId} {n : Nat} {l : List Seg} (h : zeroRow E e n = some l) : ∃ z q, zeroV E e = some z ∧ E.P.underlying e = some q ∧ cellsOf ρ l = (List.replicate n (cellsOf ρ z)).flatten ∧ ∀ A, segsInA A l := by
  unfold zeroRow at h
  have rep : ∀ (x : Value) (n : Nat), (List.range n).map (fun _ => x) = (List.replicate n [x]).flatten := by
    intro x n
    induction n with
    | zero => rfl
    | succ n ih => rw [List.range_succ, List.map_append, ih, List.replicate_succ', List.flatten_append]; rfl
  split at h
  · cases h
  · rename_i z hz
    have key : ∀ v : Value, vEqL (cellsOf (fun _ => default) z) [v] = true → cellsOf ρ z = [v] := fun v hv => by
      rw [zeroV_noId hz]; exact vEqL_spec hv
    simp only [] at h
    split at h
    · rename_i hq
      split at h
      · rename_i hk
        simp at h; subst h
        refine ⟨z, _, hz, hq, ?_, fun A g hg => by simp at hg; subst hg; trivial⟩
        rw [key _ hk, ← rep]; simp [cellsOf, Seg.cells]
      · cases h
    · rename_i hq
      split at h
      · rename_i hk
        simp at h; subst h
        refine ⟨z, _, hz, hq, ?_, fun A g hg => by simp at hg; subst hg; trivial⟩
        rw [key _ hk, ← rep]; simp [cellsOf, Seg.cells]
      · cases h
    · rename_i hq
      split at h
      · rename_i hk
        simp at h; subst h
        refine ⟨z, _, hz, hq, ?_, fun A g hg => by simp at hg; subst hg; trivial⟩
        rw [key _ hk, ← rep]; simp [cellsOf, Seg.cells]
      · cases h
    · rename_i hq
      split at h
      · rename_i hk
        simp at h; subst h
        refine ⟨z, _, hz, hq, ?_, fun A g hg => by simp at hg; subst hg; trivial⟩
        rw [key _ hk, ← rep]; simp [cellsOf, Seg.cells]
      · cases h
    · rename_i q hq
      simp at h; subst h
      refine ⟨z, _, hz, hq, cellsOf_replicate n z, fun A g hg => ?_⟩
      obtain ⟨m, hm, hg⟩ := List.mem_flatten.1 hg
      rw [List.eq_of_mem_replicate hm] at hg
      obtain ⟨_, _, _, z3⟩ := zeroV_spec hz ρ (default : World)
      exact z3 A g hg
    · cases h

theorem makeSlicex_ok {t : TypeId} {x y : SV} {r : Res} {l : List Nat} {u v : Value} (h : (makeSlicex E t x y fid).run hp = some (r, l)) (hs : HSim ρ A hp w) (hx : R ρ A x u) (hy : R ρ A y v)
    (hf : ∀ j, fid ≤ j → j < fid + 32 → ¬ A j) (hP : Post ρ A hp w fid r next) :
    ∃ z w', (Instr.makeSlice t u v).run E.P w = .ok z w' ∧ next z w' := by
  unfold makeSlicex at h
  split at h
  · rename_i e s n s' c ht hxx hyy
    have := asSC_spec hxx; subst this
    have := asSC_spec hyy; subst this
    obtain ⟨_, rfl⟩ := hx
    obtain ⟨_, rfl⟩ := hy
    split at h
    · rename_i l' q hl' hq
      split at h
      · cases h
      rename_i hbz
      simp only [not_or] at hbz
      obtain ⟨hb0, hc0, hzl⟩ := hbz
      obtain ⟨z, q', hz, _, e1, e2⟩ := zeroRow_spec (ρ := ρ) hl'
      obtain ⟨zv, z1, z2, z3⟩ := zeroV_spec hz ρ w
      obtain ⟨i, hi⟩ := und_info hq
      have hb : E.P.bytesOf e = i.bytes := by simp [Program.bytesOf, hi]
      have main : ∀ (need : List Prop) (st : Bool), (0 ≤ n ∧ n ≤ c ∧ E.P.bytesOf e * c ≤ 281474976710656) → Post ρ A hp w fid ⟨[], need, .ev (.sc (.slc ⟨fid, 0, none⟩ st n.toNat c.toNat)), [], [⟨l', 0, e, true⟩]⟩ next →
          ∃ z w', (Instr.makeSlice t (V.enc ρ (.sc (.int .i64 s n))) (V.enc ρ (.sc (.int .i64 s' c)))).run E.P w = .ok z w' ∧ next z w' := by
        intro need st hc hP
        obtain ⟨h1, h2, h3⟩ := hc
        refine ⟨.slice (some ⟨w.heap.size, 0, none⟩) n.toNat c.toNat, World.newBlk w (.cells (cellsOf ρ l').toArray e (0, 0)), ?_, ?_⟩
        · have hc1 : c ≤ 281474976710656 := by
            have : (1 : Int) ≤ E.P.bytesOf e := by omega
            have : 1 * c ≤ E.P.bytesOf e * c := Int.mul_le_mul_of_nonneg_right this (by omega)
            omega
          have w1 : IntKind.i64.wrap n = n := by rw [wrap_i64]; omega
          have w2 : IntKind.i64.wrap c = c := by rw [wrap_i64]; omega
          have hlen : segsLen z = E.P.cellsOf e := by simpa [hz] using hzl
          have hrow := zero_cells (ρ := ρ) (z := z) (n := c.toNat) hlen hc0
          rw [cellsOf_replicate, ← e1] at hrow
          simp only [Instr.makeSlice, Sem.run_bind, run_und ht, Result.andThen_ok, asInt, asIntOf, V.enc, SC.enc, Sem.run_pure, run_info hi, w1, w2]
          have t1 : (decide (c < 0) || decide ((i.bytes : Int) * c > 2 ^ 48) || decide (n < 0) || decide (n > c)) = false := by
            rw [← hb]
            simp
            omega
          simp only [t1, Bool.false_eq_true, if_false, Sem.run_bind, Sem.run_pure, run_askRoom, Result.andThen_ok, run_size hq]
          by_cases h0 : c.toNat * E.P.cellsOf e = 0
          · have hcz : c.toNat = 0 := by
              rcases Nat.mul_eq_zero.1 h0 with h | h
              · exact h
              · exact absurd h hc0
            rw [if_pos h0]
            have : cellsOf ρ l' = [] := by rw [e1, hcz]; rfl
            simp only [Sem.run_bind, Sem.run_pure, Result.andThen_ok]
            rw [h0, this]
            have ez : ∀ f : Nat → Value, (Array.range 0).map f = #[] := fun _ => Array.ext' (by simp)
            simp only [ez]
            simp [newRow, World.newBlk]
          · rw [if_neg h0]
            simp only [Sem.run_bind, z1, Result.andThen_ok, Sem.run_pure, z2]
            rw [hrow]
            simp [newRow, World.newBlk]
        · have := post_new hs (e2 A) hf (rest := []) rfl hP (by simp) (v := .slice (some ⟨w.heap.size, 0, none⟩) n.toNat c.toNat) ⟨.inr rfl, by simp [V.enc, SC.enc, XA.enc, XA.o, Addr.add_zero]⟩ w rfl rfl rfl rfl
          rwa [List.append_nil] at this
      simp only [] at h
      split at h
      · split at h
        · rename_i hc
          obtain rfl := run_ret h
          exact main [] true hc hP
        · cases h
      · obtain rfl := run_ret h
        exact main _ false ((hP (by simp)).1 _ List.mem_cons_self) hP
    · cases h
  · cases h


/-! ### Slices -/
theorem boundOf_spec {ov : Operand → SV} {ev : Operand → Value} (hov : ∀ x, R ρ A (ov x) (ev x)) {d : Nat} {o : Option Operand} {n : Int} {s : Bool} (h : boundOf ov d o = some (n, s)) :
    (o = none ∧ n = d) ∨ (∃ x k, o = some x ∧ ev x = .int k n) := by
  unfold boundOf at h
  split at h
  · simp at h; exact .inl ⟨rfl, h.1.symm⟩
  · rename_i x
    split at h
    · rename_i v hv
      split at h
      · rename_i k n' s' hn
        simp at h
        obtain ⟨rfl, rfl⟩ := h
        have := asSC_spec hv
        have hr := hov x
        rw [this] at hr
        exact .inr ⟨x, k, rfl, by rw [hr.2]; exact SC.num_enc hn⟩
      · cases h
    · cases h

theorem run_bounds {ov : Operand → SV} {ev : Operand → Value} (hov : ∀ x, R ρ A (ov x) (ev x)) {len cap : Nat} {lo hi : Option Operand} {l h : Int} {sl sh : Bool} (b : Bool) (hl : boundOf ov 0 lo = some (l, sl)) (hh : boundOf ov len hi = some (h, sh))
    (h1 : 0 ≤ l) (h2 : l ≤ h) (h3 : h ≤ cap) : (Instr.sliceBounds b len cap (lo.map ev) (hi.map ev) none).run E.P w = .ok (l.toNat, h.toNat, cap) w := by
  have one : ∀ (x : Value) (k : IntKind) (n : Int) (y : Nat) (c : BoundsCode), x = .int k n → 0 ≤ n → n ≤ y → (Instr.sliceBound x y c).run E.P w = .ok n.toNat w := by
    intro x k n y c hx h0 hy
    subst hx
    simp [Instr.sliceBound, asIntOf, h0, hy]
  unfold Instr.sliceBounds
  rcases boundOf_spec hov hh with ⟨rfl, rfl⟩ | ⟨xh, kh, rfl, eh⟩
  · rcases boundOf_spec hov hl with ⟨rfl, rfl⟩ | ⟨xl, kl, rfl, el⟩
    · simp
    · simp only [Option.map_none, Option.map_some, Sem.run_bind, Sem.run_pure, Result.andThen_ok]
      rw [one (ev xl) kl l len _ el h1 h2]
      simp
  · rcases boundOf_spec hov hl with ⟨rfl, rfl⟩ | ⟨xl, kl, rfl, el⟩
    · simp only [Option.map_none, Option.map_some, Sem.run_bind, Sem.run_pure, Result.andThen_ok]
      rw [one (ev xh) kh h cap _ eh (by omega) h3]
      simp
    · simp only [Option.map_some, Sem.run_bind, Sem.run_pure, Result.andThen_ok]
      rw [one (ev xh) kh h cap _ eh (by omega) h3]
      simp only [Result.andThen_ok]
      rw [one (ev xl) kl l h.toNat _ el h1 (by omega)]
      simp

theorem slicex_ok {t : TypeId} {x : Operand} {lo hi mx : Option Operand} {ov : Operand → SV} {ev : Operand → Value} {r : Res} {l : List Nat} (h : (slicex E t x lo hi mx ov).run hp = some (r, l)) (hs : HSim ρ A hp w) (hov : ∀ x, R ρ A (ov x) (ev x)) (hP : Post ρ A hp w fid r next) :
    ∃ v, (Instr.sliceAt t (ev x) (lo.map ev) (hi.map ev) (mx.map ev)).run E.P w = .ok v w ∧ next v w := by
  have hx := hov x
  unfold slicex at h
  split at h
  · cases h
  · simp only [Option.map_none]
    split at h
    · -- a string
      rename_i st b ht heq
      rw [heq] at hx
      obtain ⟨_, hx⟩ := hx
      split at h
      · rename_i l1 sl h1 sh e1 e2
        obtain rfl := run_retVN h
        obtain ⟨hn, _⟩ := hP (by simp)
        obtain ⟨c1, c2, c3⟩ : 0 ≤ l1 ∧ l1 ≤ h1 ∧ h1 ≤ (b.size : Int) := hn _ List.mem_cons_self
        refine ⟨_, ?_, (post_same hs hP rfl rfl rfl fun _ => ⟨trivial, rfl⟩).2⟩
        rw [hx]
        simp only [Instr.sliceAt, Sem.run_bind, run_und ht, Result.andThen_ok, Instr.slice, V.enc, SC.enc, Option.isSome_none, Bool.false_eq_true, if_false]
        rw [run_bounds hov false e1 e2 c1 c2 c3]
        simp
      · cases h
    · -- a slice
      rename_i e a s len cap ht heq
      rw [heq] at hx
      obtain ⟨hA, hx⟩ := hx
      split at h
      · rename_i l1 sl h1 sh q e1 e2 hq
        have run : 0 ≤ l1 ∧ l1 ≤ h1 ∧ h1 ≤ (cap : Int) → (Instr.sliceAt t (ev x) (lo.map ev) (hi.map ev) none).run E.P w =
            .ok (.slice (if cap = l1.toNat then some (a.enc ρ) else some ((a.enc ρ).add (l1.toNat * E.P.cellsOf e))) (h1.toNat - l1.toNat) (cap - l1.toNat)) w := by
          rintro ⟨c1, c2, c3⟩
          rw [hx]
          simp only [Instr.sliceAt, Sem.run_bind, run_und ht, Result.andThen_ok, Instr.slice, V.enc, SC.enc]
          rw [run_bounds hov true e1 e2 c1 c2 c3]
          simp only [Result.andThen_ok, run_size hq, Sem.run_pure, Option.map_some]
        simp only [] at h
        split at h
        · rename_i h0
          simp only [Bool.and_eq_true, decide_eq_true_eq] at h0
          obtain ⟨_, h0⟩ := h0
          subst h0
          have fin : ∀ st, (∀ p ∈ r.need, p) → r.val = .ev (.sc (.slc a st h1.toNat cap)) → (0 ≤ (0 : Int) ∧ 0 ≤ h1 ∧ h1 ≤ (cap : Int)) → R ρ A r.val (.slice (if cap = (0 : Int).toNat then some (a.enc ρ) else some ((a.enc ρ).add ((0 : Int).toNat * E.P.cellsOf e))) (h1.toNat - (0 : Int).toNat) (cap - (0 : Int).toNat)) := by
            intro st _ hv _
            rw [hv]
            refine ⟨hA, ?_⟩
            simp [V.enc, SC.enc, Addr.add_zero]
          split at h
          · split at h
            · obtain rfl := run_retVN h
              obtain ⟨hn, _⟩ := hP (by simp)
              have hc : 0 ≤ (0 : Int) ∧ 0 ≤ h1 ∧ h1 ≤ (cap : Int) := hn _ List.mem_cons_self
              exact ⟨_, run hc, (post_same hs hP rfl rfl rfl fun hn => fin true hn rfl hc).2⟩
            · split at h
              · rename_i hc
                obtain rfl := run_retV h
                exact ⟨_, run hc, (post_same hs hP rfl rfl rfl fun hn => fin true hn rfl hc).2⟩
              · cases h
          · obtain rfl := run_retVN h
            obtain ⟨hn, _⟩ := hP (by simp)
            have hc : 0 ≤ (0 : Int) ∧ 0 ≤ h1 ∧ h1 ≤ (cap : Int) := hn _ List.mem_cons_self
            exact ⟨_, run hc, (post_same hs hP rfl rfl rfl fun hn => fin false hn rfl hc).2⟩
        · split at h
          · split at h
            · split at h
              · rename_i b hb
                obtain rfl := run_retVN h
                obtain ⟨hn, _⟩ := hP (by simp)
                have hc : 0 ≤ l1 ∧ l1 ≤ h1 ∧ h1 ≤ (cap : Int) := hn _ List.mem_cons_self
                have hc2 : l1 < (cap : Int) := hn _ (by simp)
                obtain ⟨e3, e4⟩ := elemXA_spec hb ρ
                refine ⟨_, run hc, (post_same hs hP rfl rfl rfl fun _ => ⟨(e4 ▸ hA : A b.id), ?_⟩).2⟩
                rw [if_neg (by omega)]
                simp [V.enc, SC.enc, e3]
              · cases h
            · split at h
              · rename_i hc
                split at h
                · rename_i b hb
                  obtain rfl := run_retV h
                  obtain ⟨e3, e4⟩ := elemXA_spec hb ρ
                  refine ⟨_, run ⟨hc.1, hc.2.1, hc.2.2.1⟩, post_ret hs hP ⟨(e4 ▸ hA : A b.id), ?_⟩⟩
                  rw [if_neg (by omega)]
                  simp [V.enc, SC.enc, e3]
                · cases h
              · cases h
          · split at h
            · rename_i b hb
              obtain rfl := run_retVN h
              obtain ⟨hn, _⟩ := hP (by simp)
              have hc : 0 ≤ l1 ∧ l1 ≤ h1 ∧ h1 ≤ (cap : Int) := hn _ List.mem_cons_self
              obtain ⟨e3, e4⟩ := elemXA_spec hb ρ
              refine ⟨_, run hc, (post_same hs hP rfl rfl rfl fun _ => ⟨(e4 ▸ hA : A b.id), ?_⟩).2⟩
              simp only [V.enc, SC.enc, e3]
              congr 1
              by_cases hcl : cap = l1.toNat
              · rw [if_pos hcl, if_pos hcl.symm]; simp [Addr.add_zero]
              · rw [if_neg hcl, if_neg (fun e => hcl e.symm)]
            · cases h
      · cases h
    · -- a nil slice
      rename_i e ht heq
      rw [heq] at hx
      obtain ⟨_, hx⟩ := hx
      split at h
      · rename_i l1 sl h1 sh q e1 e2 hq
        obtain rfl := run_retVN h
        obtain ⟨hn, _⟩ := hP (by simp)
        obtain ⟨rfl, rfl⟩ : l1 = 0 ∧ h1 = 0 := hn _ List.mem_cons_self
        refine ⟨_, ?_, (post_same hs hP rfl rfl rfl fun _ => ⟨trivial, rfl⟩).2⟩
        rw [hx]
        simp only [Instr.sliceAt, Sem.run_bind, run_und ht, Result.andThen_ok, Instr.slice, V.enc, SC.enc]
        rw [run_bounds (cap := 0) hov true e1 e2 (by omega) (by omega) (by omega)]
        simp [run_size hq]
      · cases h
    · -- an array
      rename_i y n e ht
      split at h
      · rename_i ns a l1 sl h1 sh q ha e1 e2 hq
        have run : (∀ p ∈ ns, p) → 0 ≤ l1 ∧ l1 ≤ h1 ∧ h1 ≤ (n : Int) → (Instr.sliceAt t (ev x) (lo.map ev) (hi.map ev) none).run E.P w =
            .ok (.slice (some (if n = l1.toNat then a.enc ρ else (a.enc ρ).add (l1.toNat * E.P.cellsOf e))) (h1.toNat - l1.toNat) (n - l1.toNat)) w ∧ A a.id := by
          rintro hns ⟨c1, c2, c3⟩
          obtain ⟨e5, hA⟩ := asXA_spec ha hx hns
          refine ⟨?_, hA⟩
          rw [e5]
          simp only [Instr.sliceAt, Sem.run_bind, run_und ht, Result.andThen_ok, Instr.sureAddr, Sem.run_pure]
          rw [run_bounds hov false e1 e2 c1 c2 c3]
          simp only [Result.andThen_ok, run_size hq, Sem.run_pure]
        simp only [] at h
        split at h
        · rename_i h0
          simp only [Bool.and_eq_true, decide_eq_true_eq] at h0
          obtain ⟨_, h0⟩ := h0
          subst h0
          split at h
          · split at h
            · rename_i hc
              obtain rfl := run_retVN h
              obtain ⟨hn, _⟩ := hP (by simp)
              obtain ⟨g1, hA⟩ := run hn ⟨Int.le_refl _, hc.1, hc.2⟩
              refine ⟨_, g1, (post_same hs hP rfl rfl rfl fun _ => ⟨hA, ?_⟩).2⟩
              simp [V.enc, SC.enc, Addr.add_zero]
            · cases h
          · obtain rfl := run_retVN h
            obtain ⟨hn, _⟩ := hP (by simp)
            obtain ⟨g1, hA⟩ := run (fun p hp => hn p (by simp [hp])) (hn (0 ≤ (0 : Int) ∧ 0 ≤ h1 ∧ h1 ≤ (n : Int)) (by simp))
            refine ⟨_, g1, (post_same hs hP rfl rfl rfl fun _ => ⟨hA, ?_⟩).2⟩
            simp [V.enc, SC.enc, Addr.add_zero]
        · split at h
          · rename_i b hb
            obtain rfl := run_retVN h
            obtain ⟨hn, _⟩ := hP (by simp)
            obtain ⟨g1, hA⟩ := run (fun p hp => hn p (by simp [hp])) (hn (0 ≤ l1 ∧ l1 ≤ h1 ∧ h1 ≤ (n : Int)) (by simp))
            obtain ⟨e3, e4⟩ := elemXA_spec hb ρ
            refine ⟨_, g1, (post_same hs hP rfl rfl rfl fun _ => ⟨(e4 ▸ hA : A b.id), ?_⟩).2⟩
            simp only [V.enc, SC.enc, e3]
            congr 2
            by_cases hcl : n = l1.toNat
            · rw [if_pos hcl, if_pos hcl.symm]; simp [Addr.add_zero]
            · rw [if_neg hcl, if_neg (fun e => hcl e.symm)]
          · cases h
      · cases h
    · cases h

theorem lenx_ok {t : TypeId} {x : SV} {r : Res} {l : List Nat} {u : Value} (h : (lenx E t x).run hp = some (r, l)) (hs : HSim ρ A hp w) (hx : R ρ A x u) (hP : Post ρ A hp w fid r next) (ty : TypeId) :
    ∃ v, (Builtin.len_ #[t] ty #[u]).run E.P w = .ok v w ∧ next v w := by
  unfold lenx at h
  split at h
  · rename_i s b ht
    obtain ⟨_, rfl⟩ := hx
    obtain rfl := run_retV h
    exact ⟨_, by simp [Builtin.len_, run_und ht, V.enc, SC.enc, goInt], post_ret hs hP ⟨trivial, rfl⟩⟩
  · rename_i e a s len cap ht
    obtain ⟨_, rfl⟩ := hx
    obtain rfl := run_retV h
    exact ⟨_, by simp [Builtin.len_, run_und ht, V.enc, SC.enc, goInt], post_ret hs hP ⟨trivial, rfl⟩⟩
  · rename_i e ht
    obtain ⟨_, rfl⟩ := hx
    obtain rfl := run_retV h
    exact ⟨_, by simp [Builtin.len_, run_und ht, V.enc, SC.enc, goInt], post_ret hs hP ⟨trivial, rfl⟩⟩
  · rename_i y n e ht
    obtain rfl := run_retV h
    refine ⟨.int .i64 n, ?_, post_ret hs hP ⟨trivial, rfl⟩⟩
    simp only [Builtin.len_]
    simp [run_und ht, goInt]
  · cases h

theorem minFold_spec : ∀ {l : List SC} {a z : SC}, minFold l a = some z → ((l.map (SC.enc ρ)).foldlM Builtin.min2 (a.enc ρ)).run E.P w = .ok (z.enc ρ) w ∧ (a.inA A → z.inA A)
  | [], a, z, h => by simp [minFold] at h; subst h; exact ⟨rfl, fun h => h⟩
  | x :: r, a, z, h => by
    unfold minFold at h
    split at h
    · cases ‹_ :: _ = []›
    · rename_i s y r' t x' heq
      obtain ⟨rfl, rfl⟩ := List.cons.inj heq
      obtain ⟨h1, h2⟩ := minFold_spec h
      refine ⟨?_, fun _ => h2 trivial⟩
      simp only [List.map_cons, List.foldlM_cons, Sem.run_bind, SC.enc, Builtin.min2, Sem.run_pure, Result.andThen_ok]
      exact h1
    · cases h

theorem maxFold_spec : ∀ {l : List SC} {a z : SC}, maxFold l a = some z → ((l.map (SC.enc ρ)).foldlM Builtin.max2 (a.enc ρ)).run E.P w = .ok (z.enc ρ) w ∧ (a.inA A → z.inA A)
  | [], a, z, h => by simp [maxFold] at h; subst h; exact ⟨rfl, fun h => h⟩
  | x :: r, a, z, h => by
    unfold maxFold at h
    split at h
    · cases ‹_ :: _ = []›
    · rename_i s y r' t x' heq
      obtain ⟨rfl, rfl⟩ := List.cons.inj heq
      obtain ⟨h1, h2⟩ := maxFold_spec h
      refine ⟨?_, fun _ => h2 trivial⟩
      simp only [List.map_cons, List.foldlM_cons, Sem.run_bind, SC.enc, Builtin.max2, Sem.run_pure, Result.andThen_ok]
      exact h1
    · cases h

/-- Operands that are all known. -/
theorem mapSC_spec {xs : List SV} {us : List Value} {zs : List SC} (hz : mapAll asSC xs = some zs) (hx : ∀ (i : Nat) (x : SV), xs[i]? = some x → ∃ u, us[i]? = some u ∧ R ρ A x u) (hl : us.length = xs.length) : us = zs.map (SC.enc ρ) ∧ ∀ z ∈ zs, z.inA A := by
  obtain ⟨e1, e2⟩ := mapAll_spec hz
  constructor
  · apply List.ext_getElem?
    intro i
    rw [List.getElem?_map]
    cases hi : xs[i]? with
    | none =>
      have := List.getElem?_eq_none_iff.1 hi
      rw [List.getElem?_eq_none (by omega), List.getElem?_eq_none (by omega)]; rfl
    | some x =>
      obtain ⟨u, h1, h2⟩ := hx i x hi
      obtain ⟨z, h3, h4⟩ := e2 i x hi
      have := asSC_spec h4
      subst this
      rw [h1, h3, h2.2]; rfl
  · intro z hz
    obtain ⟨i, hi⟩ := List.getElem?_of_mem hz
    have hlt := (List.getElem?_eq_some_iff.1 hi).1
    obtain ⟨x, hxi⟩ : ∃ x, xs[i]? = some x := ⟨xs[i]'(by omega), List.getElem?_eq_getElem (by omega)⟩
    obtain ⟨u, h1, h2⟩ := hx i x hxi
    obtain ⟨z', h3, h4⟩ := e2 i x hxi
    rw [hi] at h3
    simp at h3
    subst h3
    have := asSC_spec h4
    subst this
    exact h2.1

theorem mapV_spec {xs : List SV} {us : List Value} {zs : List V} (hz : mapAll asV xs = some zs) (hx : ∀ (i : Nat) (x : SV), xs[i]? = some x → ∃ u, us[i]? = some u ∧ R ρ A x u) (hl : us.length = xs.length) : us = zs.map (V.enc ρ) ∧ ∀ z ∈ zs, z.inA A := by
  obtain ⟨e1, e2⟩ := mapAll_spec hz
  constructor
  · apply List.ext_getElem?
    intro i
    rw [List.getElem?_map]
    cases hi : xs[i]? with
    | none =>
      have := List.getElem?_eq_none_iff.1 hi
      rw [List.getElem?_eq_none (by omega), List.getElem?_eq_none (by omega)]; rfl
    | some x =>
      obtain ⟨u, h1, h2⟩ := hx i x hi
      obtain ⟨z, h3, h4⟩ := e2 i x hi
      have := asV_spec h4
      subst this
      rw [h1, h3, h2.2]; rfl
  · intro z hz
    obtain ⟨i, hi⟩ := List.getElem?_of_mem hz
    have hlt := (List.getElem?_eq_some_iff.1 hi).1
    obtain ⟨x, hxi⟩ : ∃ x, xs[i]? = some x := ⟨xs[i]'(by omega), List.getElem?_eq_getElem (by omega)⟩
    obtain ⟨u, h1, h2⟩ := hx i x hxi
    obtain ⟨z', h3, h4⟩ := e2 i x hxi
    rw [hi] at h3
    simp at h3
    subst h3
    have := asV_spec h4
    subst this
    exact h2.1

end
end Go.X
