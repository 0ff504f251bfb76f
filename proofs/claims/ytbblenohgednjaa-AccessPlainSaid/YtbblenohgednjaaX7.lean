import Derived.Test.YtbblenohgednjaaX6
/- A part of the walking machine: shown once for every program of the model; no condition of its own. -/
/- That each operation does what its word says. -/
namespace Go.X

/-- What stands behind an operation. -/
def Post (ρ : Nat → Addr) (A : Nat → Prop) (hp : Hp) (w : World) (fid : Nat) (r : Res) (next : Value → World → Prop) : Prop :=
  (∀ p ∈ r.asm, p) → (∀ p ∈ r.need, p) ∧ ∀ ρ' A' v w', Ext fid ρ A ρ' A' → HSim ρ' A' (applyRes hp fid r) w' → R ρ' A' r.val v →
    Fr (fun k => ∃ i, (∃ ob, (i, ob) ∈ r.wrs) ∧ k = (ρ i).block) w w' →
    (∀ i, A' i → ¬ A i → w.heap.size ≤ (ρ' i).block ∨ ∃ j, (∃ ob, (j, ob) ∈ r.wrs) ∧ (ρ' i).block = (ρ j).block) → next v w'

section
variable {E : Env} {ρ : Nat → Addr} {A : Nat → Prop} {hp : Hp} {w : World} {fid : Nat} {next : Value → World → Prop}

/-- An operation that leaves the world alone. -/
theorem post_same {r : Res} (hs : HSim ρ A hp w) (h : Post ρ A hp w fid r next) (h1 : r.asm = []) (h2 : r.wrs = []) (h3 : r.news = []) {v : Value} (hv : (∀ p ∈ r.need, p) → R ρ A r.val v) : (∀ p ∈ r.need, p) ∧ next v w := by
  obtain ⟨hn, hk⟩ := h (by simp [h1])
  refine ⟨hn, hk ρ A v w (Ext.refl _ _ _) ?_ (hv hn) (Fr.refl _ _) (fun i h1 h2 => absurd h1 h2)⟩
  simpa [applyRes, h2, h3, applyWrs, applyNews] using hs

theorem post_ret {sv : SV} (hs : HSim ρ A hp w) (h : Post ρ A hp w fid ⟨[], [], sv, [], []⟩ next) {v : Value} (hv : R ρ A sv v) : next v w :=
  (post_same hs h rfl rfl rfl fun _ => hv).2

theorem run_retV {v : V} {r : Res} {l : List Nat} (h : (retV v).run hp = some (r, l)) : r = ⟨[], [], .ev v, [], []⟩ := by
  simp [retV, Rd.run] at h; exact h.1.symm
theorem run_retVN {ns : List Prop} {v : V} {r : Res} {l : List Nat} (h : (retVN ns v).run hp = some (r, l)) : r = ⟨[], ns, .ev v, [], []⟩ := by
  simp [retVN, Rd.run] at h; exact h.1.symm
theorem run_ret {q r : Res} {l : List Nat} (h : (Rd.ret q).run hp = some (r, l)) : r = q := by
  simp [Rd.run] at h; exact h.1.symm
theorem run_get {id : Nat} {k : Blk → Rd} {r : Res} {l : List Nat} (h : (Rd.get id k).run hp = some (r, l)) : ∃ b l', hp id = some b ∧ (k b).run hp = some (r, l') := by
  simp only [Rd.run] at h
  cases hb : hp id with
  | none => simp [hb] at h
  | some b =>
    simp only [hb] at h
    cases hk : (k b).run hp with
    | none => simp [hk] at h
    | some p => obtain ⟨r', l'⟩ := p; simp [hk] at h; obtain ⟨rfl, rfl⟩ := h; exact ⟨b, l', rfl, hk⟩

theorem ungrd_ok {x : SV} {r : Res} {l : List Nat} {u : Value} (h : (ungrd x).run hp = some (r, l)) (hs : HSim ρ A hp w) (hx : R ρ A x u) (hP : Post ρ A hp w fid r next) : next u w := by
  unfold ungrd at h
  split at h
  · obtain rfl := run_retVN h
    exact (post_same hs hP rfl rfl rfl fun hn => (hx.1 (hn _ List.mem_cons_self))).2
  · obtain rfl := run_ret h
    exact post_ret hs hP hx

theorem pickx_ok {c x y : SV} {r : Res} {l : List Nat} {uc ux uy : Value} (h : (pickx c x y).run hp = some (r, l)) (hs : HSim ρ A hp w) (hc : R ρ A c uc) (hx : R ρ A x ux) (hy : R ρ A y uy) (hP : Post ρ A hp w fid r next) :
    ∃ b, uc = .bool b ∧ next (if b then ux else uy) w := by
  unfold pickx at h
  split at h
  · rename_i b hb
    have := asSC_spec hb
    subst this
    refine ⟨b, hc.2, ?_⟩
    cases b with
    | true => simp only [if_true] at h ⊢; exact ungrd_ok h hs hx hP
    | false => simp only [Bool.false_eq_true, if_false] at h ⊢; exact ungrd_ok h hs hy hP
  · rename_i b hb
    have := asSC_spec hb
    subst this
    refine ⟨b, hc.2, ?_⟩
    split at h
    · obtain rfl := run_retV h
      refine post_ret hs hP ⟨trivial, ?_⟩
      rw [hx.2, hy.2]
      cases b <;> simp [V.enc, SC.enc]
    · obtain rfl := run_retVN h
      refine (post_same hs hP rfl rfl rfl fun hn => ⟨trivial, ?_⟩).2
      have := hn _ List.mem_cons_self
      rw [hx.2]
      cases b with
      | true => simp [V.enc, SC.enc]
      | false => simp only [Bool.false_eq_true, if_false]; rw [(hy.1 (this rfl)).2]; simp [V.enc, SC.enc]
    · obtain rfl := run_retVN h
      refine (post_same hs hP rfl rfl rfl fun hn => ⟨trivial, ?_⟩).2
      have := hn _ List.mem_cons_self
      rw [hy.2]
      cases b with
      | false => simp [V.enc, SC.enc]
      | true => simp only [if_true]; rw [(hx.1 (this rfl)).2]; simp [V.enc, SC.enc]
    · cases h
  · cases h

/-- A new block. -/
theorem newx_ok {g : List Seg} {t : TypeId} {r : Res} {l : List Nat} (h : (newx fid g t).run hp = some (r, l)) (hs : HSim ρ A hp w) (hA : segsInA A g) (hf : ∀ j, fid ≤ j → j < fid + 32 → ¬ A j) (hP : Post ρ A hp w fid r next) :
    next (.pointer (some ⟨w.heap.size, 0, none⟩)) (World.newBlk w (.cells (cellsOf ρ g).toArray t (0, 0))) := by
  obtain rfl := run_ret h
  have hn : ¬ A fid := hf fid (Nat.le_refl _) (by omega)
  have hnew := hs.new hn (segs := g) (ty := t) hA (rest := []) rfl
  rw [List.append_nil] at hnew
  refine (hP (by simp)).2 _ _ _ _ ⟨fun i hi => ?_, fun i hi => .inl hi, fun i hi => ?_⟩ hnew ⟨?_, ?_⟩ (Fr.newBlk _ _ _ _) (fun i h1 h2 => ?_)
  · have : i ≠ fid := fun e => hn (e ▸ hi)
    simp [this]
  · rcases hi with hi | rfl
    · exact .inl hi
    · exact .inr ⟨Nat.le_refl _, by omega⟩
  · exact .inr rfl
  · simp [V.enc, SC.enc, XA.enc, XA.o, Addr.add_zero]
  · rcases h1 with h1 | rfl
    · exact absurd h1 h2
    · left; simp

theorem run_newVar {g : List Seg} {t : TypeId} {v : Value} (h : v.cells = (cellsOf ρ g).toArray) : (newVar t v).run E.P w = .ok ⟨w.heap.size, 0, none⟩ (World.newBlk w (.cells (cellsOf ρ g).toArray t (0, 0))) := by
  simp [newVar, newRow, h, World.newBlk]

theorem nilx_ok {x : SV} {r : Res} {l : List Nat} {u : Value} (h : (nilx x).run hp = some (r, l)) (hs : HSim ρ A hp w) (hx : R ρ A x u) (hP : Post ρ A hp w fid r next) :
    ((∃ a, u = .pointer (some a)) ∨ (∃ f a b, u = .func (.func f) a b)) ∧ next u w := by
  unfold nilx at h
  split at h
  · rename_i ns a ha
    obtain rfl := run_ret h
    obtain ⟨hn, _⟩ := hP (by simp)
    obtain ⟨e, hA⟩ := asXA_spec ha hx hn
    subst e
    exact ⟨.inl ⟨_, rfl⟩, (post_same hs hP rfl rfl rfl fun _ => ⟨hA, rfl⟩).2⟩
  · split at h
    · split at h
      · obtain rfl := run_ret h
        exact ⟨.inr ⟨_, _, _, hx.2⟩, post_ret hs hP hx⟩
      · cases h
    · cases h

theorem fuseV_spec {v : V} (hv : v.inA A) : (match v with | .agg g => V.agg (fuse g) | v => v).enc ρ = v.enc ρ ∧ (match v with | .agg g => V.agg (fuse g) | v => v).inA A := by
  cases v with
  | agg g => exact ⟨by simp only [V.enc, fuse_spec], fuse_inA hv⟩
  | sc v => exact ⟨rfl, hv⟩
  | fn f a b => exact ⟨rfl, hv⟩

theorem loadx_ok {t : TypeId} {x : SV} {r : Res} {l : List Nat} {u : Value} (h : (loadx E t x).run hp = some (r, l)) (hs : HSim ρ A hp w) (hx : R ρ A x u) (hP : Post ρ A hp w fid r next) :
    ∃ v, (Instr.loadAt t u).run E.P w = .ok v w ∧ next v w := by
  unfold loadx at h
  split at h
  · rename_i ns a d ha ht
    obtain ⟨b, l', hb, h⟩ := run_get h
    split at h
    · rename_i ms v hv
      obtain rfl := run_retVN h
      obtain ⟨hn, _⟩ := hP (by simp)
      obtain ⟨e, hA⟩ := asXA_spec ha hx (fun p hp => hn p (by simp [hp]))
      obtain ⟨h1, h2⟩ := loadV_spec (P := E.P) hs ht hb hv (fun p hp => hn p (by simp [hp]))
      subst e
      refine ⟨_, by simpa [Instr.loadAt, Instr.sureAddr] using h1, (post_same hs hP rfl rfl rfl fun _ => ?_).2⟩
      have := fuseV_spec (ρ := ρ) h2
      exact ⟨this.2, this.1.symm⟩
    · cases h
  · cases h

theorem storex_ok {t : TypeId} {x y : SV} {r : Res} {l : List Nat} {u v : Value} (h : (storex E t x y).run hp = some (r, l)) (hs : HSim ρ A hp w) (hx : R ρ A x u) (hy : R ρ A y v) (hP : Post ρ A hp w fid r next) (z : Value) :
    ∃ w', (Instr.storeAt t u v).run E.P w = .ok () w' ∧ next z w' := by
  unfold storex at h
  split at h
  · rename_i ns a v' d ha hv ht
    have := asV_spec hv
    subst this
    split at h
    · rename_i g hg
      split at h
      · rename_i hsz
        obtain ⟨b, l', hb, h⟩ := run_get h
        split at h
        · rename_i ms b' hst
          obtain rfl := run_ret h
          obtain ⟨hn, hk⟩ := hP (by simp)
          obtain ⟨e, hA⟩ := asXA_spec ha hx (fun p hp => hn p (by simp [hp]))
          subst e
          obtain ⟨e1, e2⟩ := V.segs_spec hg ρ
          obtain ⟨w', h1, h2, h3⟩ := storeB_spec (P := E.P) hs ht hb hst (fun p hp => hn p (by simp [hp])) hy.1 (by rw [e1]; simp [cellsOf_length, hsz])
          refine ⟨w', by rw [hy.2]; simpa [Instr.storeAt, Instr.sureAddr] using h1, hk ρ A z w' (Ext.refl _ _ _) h2 trivial (h3.mono fun k _ hk => ⟨a.id, ⟨some b', by simp⟩, hk⟩) (fun i h1 h2 => absurd h1 h2)⟩
        · cases h
      · cases h
    · cases h
  · cases h

theorem fieldAddrx_ok {t : TypeId} {x : SV} {f : Nat} {r : Res} {l : List Nat} {u : Value} (h : (fieldAddrx E t x f).run hp = some (r, l)) (hs : HSim ρ A hp w) (hx : R ρ A x u) (hP : Post ρ A hp w fid r next) :
    ∃ v, (Instr.fieldAt t u f).run E.P w = .ok v w ∧ next v w := by
  unfold fieldAddrx at h
  split at h
  · rename_i ns a fs ha ht
    split at h
    · rename_i fd hf
      split at h
      · rename_i q hq
        split at h
        · cases h
        · rename_i hz
          obtain rfl := run_retVN h
          obtain ⟨hn, _⟩ := hP (by simp)
          obtain ⟨e, hA⟩ := asXA_spec ha hx hn
          subst e
          refine ⟨.pointer (some ((a.enc ρ).add fd.offset)), ?_, (post_same hs hP rfl rfl rfl fun _ => ?_).2⟩
          · simp [Instr.fieldAt, run_und ht, hf, Instr.sureAddr, fieldPlace, run_size hq, hz]
          · cases hd : a.dyn with
            | none => exact ⟨hA, by simp [V.enc, SC.enc, XA.enc, XA.o, hd, Addr.add_add]⟩
            | some d => exact ⟨hA, by simp [V.enc, SC.enc, XA.enc, XA.o, hd, Addr.add_add]; congr 1; omega⟩
      · cases h
    · cases h
  · cases h

theorem indexAddrx_ok {t : TypeId} {x ix : SV} {r : Res} {l : List Nat} {u ui : Value} (h : (indexAddrx E t x ix).run hp = some (r, l)) (hs : HSim ρ A hp w) (hx : R ρ A x u) (hi : R ρ A ix ui) (hP : Post ρ A hp w fid r next) :
    ∃ v, (Instr.indexAt t u ui).run E.P w = .ok v w ∧ next v w := by
  unfold indexAddrx at h
  split at h
  · cases h
  · rename_i i hii
    have := asSC_spec hii
    subst this
    split at h
    · cases h
    · rename_i k n s hnum
      have hui : ui = .int k n := by rw [hi.2]; exact SC.num_enc hnum
      subst hui
      split at h
      · rename_i len e ht
        split at h
        · rename_i ns a q ha hq
          split at h
          · cases h
          · rename_i hc
            split at h
            · rename_i b hb
              obtain rfl := run_retVN h
              obtain ⟨hn, _⟩ := hP (by simp)
              obtain ⟨e1, hA⟩ := asXA_spec ha hx (fun p hp => hn p (by simp [hp]))
              have hin : 0 ≤ n ∧ n < len := by
                cases s with
                | true => simpa using hc
                | false => exact hn _ (by simp)
              obtain ⟨e2, e3⟩ := elemXA_spec hb ρ
              subst e1
              refine ⟨_, ?_, (post_same hs hP rfl rfl rfl fun _ => ⟨(e3 ▸ hA : A b.id), rfl⟩).2⟩
              simp [Instr.indexAt, asIntOf, run_und ht, Instr.sureAddr, hin, run_size hq, V.enc, SC.enc, e2]
            · cases h
        · cases h
      · rename_i e ht
        split at h
        · rename_i a sl len cap q hq
          have hin : (0 ≤ n ∧ n < len) → ∀ b, elemXA a s n.toNat (E.P.cellsOf e) len = some b ∨ elemXA a true n.toNat (E.P.cellsOf e) len = some b ∨ elemXA a false n.toNat (E.P.cellsOf e) len = some b →
              (Instr.indexAt t u (.int k n)).run E.P w = .ok (.pointer (some (b.enc ρ))) w ∧ A b.id := by
            intro hin b hb
            obtain ⟨hA, rfl⟩ := hx
            have : b.enc ρ = (a.enc ρ).add (n.toNat * E.P.cellsOf e) ∧ b.id = a.id := by
              rcases hb with hb | hb | hb <;> exact elemXA_spec hb ρ
            refine ⟨?_, (by rw [this.2]; exact hA)⟩
            simp [Instr.indexAt, asIntOf, run_und ht, hin, run_size hq, V.enc, SC.enc, this.1]
          split at h
          · split at h
            · rename_i hin'
              split at h
              · rename_i b hb
                obtain rfl := run_retV h
                obtain ⟨h1, h2⟩ := hin hin' b (.inr (.inl hb))
                exact ⟨_, h1, post_ret hs hP ⟨h2, rfl⟩⟩
              · cases h
            · cases h
          · split at h
            · rename_i b hb
              obtain rfl := run_retVN h
              obtain ⟨hn, _⟩ := hP (by simp)
              obtain ⟨h1, h2⟩ := hin (hn _ (by simp)) b (.inr (.inr hb))
              exact ⟨_, h1, (post_same hs hP rfl rfl rfl fun _ => ⟨h2, rfl⟩).2⟩
            · cases h
        · cases h
      · cases h

theorem partx_spec {t : TypeId} {d : TypeDesc} (ht : E.P.underlying t = some d) {g : List Seg} {off : Nat} {v : V} (h : partx E t g off = some v) (hg : segsInA A g) :
    (part t (cellsOf ρ g).toArray off).run E.P w = .ok (v.enc ρ) w ∧ v.inA A := by
  unfold partx at h
  unfold part
  simp only [Sem.run_bind, run_isAgg ht, Result.andThen_ok]
  split at h
  · rename_i ha
    split at h
    · rename_i x r hx
      split at h
      · rename_i y z hy
        simp at h; subst h
        have e1 := split_spec ρ hx
        have e2 := split_spec ρ hy
        simp only [ha, if_true, Sem.run_bind, run_size ht, Result.andThen_ok, Sem.run_pure, V.enc, fuse_spec]
        refine ⟨?_, fuse_inA (split_inA hy (split_inA hx hg).2).1⟩
        congr 2
        rw [e1.1, e2.1, ← e1.2, ← e2.2, ← cellsOf_length ρ x, ← cellsOf_length ρ y]
        apply Array.ext'
        simp
      · cases h
    · cases h
  · rename_i ha
    obtain ⟨u, hu, rfl⟩ := Option.map_eq_some_iff.1 h
    have := rd_spec ρ hu
    simp only [ha, if_false, Bool.false_eq_true]
    refine ⟨?_, rd_inA hu hg⟩
    simp [this, V.enc]

theorem fieldx_ok {t : TypeId} {x : SV} {f : Nat} {r : Res} {l : List Nat} {u : Value} (h : (fieldx E t x f).run hp = some (r, l)) (hs : HSim ρ A hp w) (hx : R ρ A x u) (hP : Post ρ A hp w fid r next) :
    ∃ v, (Instr.field t u f).run E.P w = .ok v w ∧ next v w := by
  unfold fieldx at h
  split at h
  · rename_i g fs ht
    split at h
    · rename_i fd hf
      split at h
      · rename_i q hq
        cases hp' : partx E fd.type g fd.offset with
        | none => simp [hp', optRd, Rd.run] at h
        | some v =>
          simp only [hp', Option.map_some, optRd] at h
          obtain rfl := run_retV h
          obtain ⟨h1, h2⟩ := partx_spec (ρ := ρ) (w := w) hq hp' hx.1
          refine ⟨_, ?_, post_ret hs hP ⟨h2, rfl⟩⟩
          rw [hx.2]
          simp only [Instr.field, Sem.run_bind, run_und ht, Result.andThen_ok, hf, V.enc, asAgg, Sem.run_pure]
          exact h1
      · cases h
    · cases h
  · cases h

theorem extractx_ok {x : SV} {i : Nat} {r : Res} {l : List Nat} {u : Value} (h : (extractx x i).run hp = some (r, l)) (hs : HSim ρ A hp w) (hx : R ρ A x u) (hP : Post ρ A hp w fid r next) :
    ∃ v, (Instr.extract u i).run E.P w = .ok v w ∧ next v w := by
  unfold extractx at h
  split at h
  · rename_i vs
    split at h
    · rename_i v hv
      obtain rfl := run_retV h
      refine ⟨_, ?_, post_ret hs hP ⟨hx.1 v (List.mem_of_getElem? hv), rfl⟩⟩
      rw [hx.2]
      simp [Instr.extract, hv]
    · cases h
  · cases h

theorem unx_ok {op : UnOp} {x : SV} {r : Res} {l : List Nat} {u : Value} (h : (unx op x).run hp = some (r, l)) (hs : HSim ρ A hp w) (hx : R ρ A x u) (hP : Post ρ A hp w fid r next) :
    ∃ v, (Op.unary op u).run E.P w = .ok v w ∧ next v w := by
  unfold unx at h
  split at h
  · rename_i hb; have := asSC_spec hb; subst this
    obtain rfl := run_retV h
    refine ⟨_, ?_, post_ret hs hP ⟨trivial, rfl⟩⟩
    rw [hx.2]; simp [Op.unary, V.enc, SC.enc]
  · rename_i s b hb; have := asSC_spec hb; subst this
    obtain rfl := run_retV h
    refine ⟨_, ?_, post_ret hs hP ⟨trivial, rfl⟩⟩
    rw [hx.2]
    simp only [Op.unary, V.enc, SC.enc, Op.intArith, Sem.run_pure]
    congr 2
    rw [wrap_u64, sub_toNat_int]; rfl
  · rename_i hb; have := asSC_spec hb; subst this
    obtain rfl := run_retV h
    refine ⟨_, ?_, post_ret hs hP ⟨trivial, rfl⟩⟩
    rw [hx.2]; simp only [Op.unary, V.enc, SC.enc, Op.intArith, Sem.run_pure]
  · rename_i s b hb; have := asSC_spec hb; subst this
    obtain rfl := run_retV h
    refine ⟨_, ?_, post_ret hs hP ⟨trivial, rfl⟩⟩
    rw [hx.2]
    simp only [Op.unary, V.enc, SC.enc, Op.intBits, Sem.run_pure, IntKind.bits, IntKind.signed, IntKind.max, Bool.false_eq_true, if_false, ofInt_toNat, wrap_u64_toNat]
    congr 3
  · cases h

theorem ofNat_bytes (n : Nat) (f : Nat → BitVec 8) : ∀ s : ByteArray, ((List.range n).map fun i => Value.int .u8 (f i).toNat) = ((List.range n).map fun i => f i).map fun y => Value.int .u8 y.toNat := fun _ => by
  rw [List.map_map]; rfl

theorem run_toString (l : List (BitVec 8)) : ∀ (s : ByteArray), ((forIn (l.map fun y => Value.int .u8 (y.toNat : Int)) s (fun c s => do
      match c with
      | Value.int IntKind.u8 n => pure (ForInStep.yield (s.push (UInt8.ofNat n.toNat)))
      | _ => do
        stuck "bytesToString: byte expected"
        pure (ForInStep.yield s)) : Sem ByteArray).run E.P w) = .ok ⟨(s.data.toList ++ l.map UInt8.ofBitVec).toArray⟩ w := by
  induction l with
  | nil => intro s; simp
  | cons y l ih =>
    intro s
    rw [List.map_cons, List.forIn_cons]
    simp only [Int.toNat_natCast, pure_bind]
    rw [ih]
    congr 2
    apply Array.ext'
    simp [ByteArray.push]


theorem eqGuard_sc (op : BinOp) (t : TypeId) (o1 o2 : Operand) (x y : SC) : (eqGuard op t o1 o2 (x.enc ρ) (y.enc ρ)).run E.P w = .ok () w := by
  cases op <;> cases x <;> cases y <;> rfl

theorem run_str_eq (a b : ByteArray) : (a.toList == b.toList) = (a.data.toList == b.data.toList) := by rw [ByteArray.toList_eq, ByteArray.toList_eq]

theorem strOp_spec {op : BinOp} {x y : ByteArray} {s : Bool} {ns : List Prop} {z : SC} (h : strOp op x y s = some (ns, z)) (hn : ∀ p ∈ ns, p) (t : TypeId) : (binOp op t (.string x) (.string y)).run E.P w = .ok (z.enc ρ) w ∧ z.inA A := by
  unfold strOp at h
  split at h <;> first | (cases h; done) | skip
  all_goals
    simp only [Option.some.injEq, Prod.mk.injEq] at h
    obtain ⟨rfl, rfl⟩ := h
    refine ⟨?_, trivial⟩
  · simp [binOp, Op.stringOp, SC.enc, run_str_eq]
  · simp [binOp, Op.stringOp, SC.enc, run_str_eq]
  · have := hn _ List.mem_cons_self
    simp only [Array.length_toList] at this
    have e : ¬ (((x.size + y.size : Nat) : Int) > IntKind.i64.max) := by
      simp only [IntKind.max, IntKind.signed, IntKind.bits, ByteArray.size, if_true]
      omega
    simp only [binOp, Op.stringOp, e, if_false, Sem.run_pure, SC.enc]
    congr 2

theorem run_equalIn_nil1 (d : Nat) {t e : TypeId} (ht : E.P.underlying t = some (.pointer e)) (b : Option Addr) : (Op.equalIn (d + 1) t (.pointer none) (.pointer b)).run E.P w = .ok b.isNone w := by
  simp [Op.equalIn, run_und ht]
theorem run_equalIn_nil2 (d : Nat) {t e : TypeId} (ht : E.P.underlying t = some (.pointer e)) (a : Addr) : (Op.equalIn (d + 1) t (.pointer (some a)) (.pointer none)).run E.P w = .ok false w := by
  simp [Op.equalIn, run_und ht]
theorem run_equal_nil1 {t e : TypeId} (ht : E.P.underlying t = some (.pointer e)) (b : Option Addr) : (Op.equal t (.pointer none) (.pointer b)).run E.P w = .ok b.isNone w := run_equalIn_nil1 9999 ht b
theorem run_equal_nil2 {t e : TypeId} (ht : E.P.underlying t = some (.pointer e)) (a : Addr) : (Op.equal t (.pointer (some a)) (.pointer none)).run E.P w = .ok false w := run_equalIn_nil2 9999 ht a
theorem run_equal_bool {t : TypeId} (ht : E.P.underlying t = some .bool) (a b : Bool) : (Op.equal t (.bool a) (.bool b)).run E.P w = .ok (a == b) w := run_equalIn_bool' w 9999 t a b ht

theorem nilEq_spec {x y : SC} {b : Bool} (h : nilEq x y = some b) {t e : TypeId} (ht : E.P.underlying t = some (.pointer e)) : (Op.equal t (x.enc ρ) (y.enc ρ)).run E.P w = .ok b w ∧ (∃ p q, x.enc ρ = .pointer p ∧ y.enc ρ = .pointer q) := by
  unfold nilEq at h
  split at h <;> first | (cases h; done) | skip
  all_goals
    simp only [Option.some.injEq] at h
    subst h
  · exact ⟨run_equal_nil1 ht _, _, _, rfl, rfl⟩
  · exact ⟨run_equal_nil2 ht _, _, _, rfl, rfl⟩
  · exact ⟨run_equal_nil1 ht _, _, _, rfl, rfl⟩
  · rename_i b a
    refine ⟨?_, _, _, rfl, rfl⟩
    cases b with
    | true => exact run_equal_nil2 ht _
    | false => exact run_equal_nil1 ht _
  · rename_i b a
    refine ⟨?_, _, _, rfl, rfl⟩
    cases b with
    | true => exact run_equal_nil1 ht _
    | false => exact run_equal_nil1 ht _

theorem binOp_eql_bool (t : TypeId) (a b : Bool) : binOp .eql t (.bool a) (.bool b) = (do pure (.bool (← Op.equal t (.bool a) (.bool b)))) := rfl
theorem binOp_neq_bool (t : TypeId) (a b : Bool) : binOp .neq t (.bool a) (.bool b) = (do pure (.bool (!(← Op.equal t (.bool a) (.bool b))))) := rfl
theorem binOp_eql_ptr (t : TypeId) (a b : Option Addr) : binOp .eql t (.pointer a) (.pointer b) = (do pure (.bool (← Op.equal t (.pointer a) (.pointer b)))) := rfl
theorem binOp_neq_ptr (t : TypeId) (a b : Option Addr) : binOp .neq t (.pointer a) (.pointer b) = (do pure (.bool (!(← Op.equal t (.pointer a) (.pointer b))))) := rfl
theorem binOp_eql_agg (t : TypeId) (a b : Array Value) : binOp .eql t (.agg a) (.agg b) = (do pure (.bool (← Op.equal t (.agg a) (.agg b)))) := rfl
theorem binOp_neq_agg (t : TypeId) (a b : Array Value) : binOp .neq t (.agg a) (.agg b) = (do pure (.bool (!(← Op.equal t (.agg a) (.agg b))))) := rfl

theorem binx_ok {op : BinOp} {t : TypeId} {x y : SV} {r : Res} {l : List Nat} {u v : Value} (h : (binx E op t x y).run hp = some (r, l)) (hs : HSim ρ A hp w) (hx : R ρ A x u) (hy : R ρ A y v) (hP : Post ρ A hp w fid r next) (o1 o2 : Operand) :
    ∃ z, ((do eqGuard op t o1 o2 u v; binOp op t u v) : Sem Value).run E.P w = .ok z w ∧ next z w := by
  unfold binx at h
  split at h
  · rename_i a b
    obtain ⟨hxA, rfl⟩ := hx
    obtain ⟨hyA, rfl⟩ := hy
    simp only [V.enc, Sem.run_bind, eqGuard_sc, Result.andThen_ok]
    have numA : ∀ (z : SC), arith op a b = some z ∨ compare op a b = some z → z.inA A := by
      intro z hz
      rcases hz with hz | hz
      · unfold arith at hz; split at hz <;> first | (cases hz; done) | (simp at hz; subst hz; trivial)
      · unfold compare at hz
        split at hz <;> first | (cases hz; done) | skip
        case h_4 => split at hz <;> first | (cases hz; done) | (obtain ⟨_, _, rfl⟩ := Option.map_eq_some_iff.1 hz; trivial)
        all_goals (obtain ⟨_, _, rfl⟩ := Option.map_eq_some_iff.1 hz; trivial)
    split at h
    · rename_i z hz
      obtain rfl := run_retV h
      exact ⟨_, arith_spec hz t, post_ret hs hP ⟨numA z (.inl hz), rfl⟩⟩
    · split at h
      · rename_i z hz
        obtain rfl := run_retV h
        exact ⟨_, compare_spec hz t, post_ret hs hP ⟨numA z (.inr hz), rfl⟩⟩
      · split at h
        · rename_i ns z hz
          obtain rfl := run_retVN h
          obtain ⟨hn, _⟩ := hP (by simp)
          have : (binOp op t (a.enc ρ) (b.enc ρ)).run E.P w = .ok (z.enc ρ) w ∧ z.inA A := by
            split at hz
            · refine ⟨shiftBy_spec hz hn t, ?_⟩
              unfold shiftBy at hz; split at hz <;> first | (cases hz; done) | (split at hz <;> first | (cases hz; done) | (simp at hz; obtain ⟨_, rfl⟩ := hz; trivial))
            · refine ⟨shiftBy_spec hz hn t, ?_⟩
              unfold shiftBy at hz; split at hz <;> first | (cases hz; done) | (split at hz <;> first | (cases hz; done) | (simp at hz; obtain ⟨_, rfl⟩ := hz; trivial))
            · refine ⟨divide_spec hz hn t, ?_⟩
              unfold divide at hz; split at hz <;> first | (cases hz; done) | (split at hz <;> first | (cases hz; done) | (simp at hz; obtain ⟨_, rfl⟩ := hz; trivial))
            · refine ⟨divide_spec hz hn t, ?_⟩
              unfold divide at hz; split at hz <;> first | (cases hz; done) | (split at hz <;> first | (cases hz; done) | (simp at hz; obtain ⟨_, rfl⟩ := hz; trivial))
            · cases hz
          exact ⟨_, this.1, (post_same hs hP rfl rfl rfl fun _ => ⟨this.2, rfl⟩).2⟩
        · split at h
          · split at h
            · have ht : E.P.underlying t = some .bool := by assumption
              obtain rfl := run_retV h
              refine ⟨_, ?_, post_ret hs hP ⟨trivial, rfl⟩⟩
              simp only [SC.enc, V.enc, binOp_eql_bool, Sem.run_bind, run_equal_bool ht, Result.andThen_ok, Sem.run_pure]
            · have ht : E.P.underlying t = some .bool := by assumption
              obtain rfl := run_retV h
              refine ⟨_, ?_, post_ret hs hP ⟨trivial, rfl⟩⟩
              simp only [SC.enc, V.enc, binOp_neq_bool, Sem.run_bind, run_equal_bool ht, Result.andThen_ok, Sem.run_pure]
            · cases h
          · split at h
            · rename_i ns z hz
              obtain rfl := run_retVN h
              obtain ⟨hn, _⟩ := hP (by simp)
              obtain ⟨h1, h2⟩ := strOp_spec (E := E) (ρ := ρ) (A := A) (w := w) hz hn t
              exact ⟨_, h1, (post_same hs hP rfl rfl rfl fun _ => ⟨h2, rfl⟩).2⟩
            · cases h
          · split at h
            · obtain ⟨_, ht⟩ : ∃ e, E.P.underlying t = some (.pointer e) := ⟨_, by assumption⟩
              have hq := ‹nilEq a b = some _›
              obtain rfl := run_retV h
              obtain ⟨h1, p, q, e1, e2⟩ := nilEq_spec (E := E) (ρ := ρ) (w := w) hq ht
              refine ⟨_, ?_, post_ret hs hP ⟨trivial, rfl⟩⟩
              rw [e1, e2] at h1 ⊢
              simp only [binOp_eql_ptr, Sem.run_bind, h1, Result.andThen_ok, Sem.run_pure, V.enc, SC.enc]
            · obtain ⟨_, ht⟩ : ∃ e, E.P.underlying t = some (.pointer e) := ⟨_, by assumption⟩
              have hq := ‹nilEq a b = some _›
              obtain rfl := run_retV h
              obtain ⟨h1, p, q, e1, e2⟩ := nilEq_spec (E := E) (ρ := ρ) (w := w) hq ht
              refine ⟨_, ?_, post_ret hs hP ⟨trivial, rfl⟩⟩
              rw [e1, e2] at h1 ⊢
              simp only [binOp_neq_ptr, Sem.run_bind, h1, Result.andThen_ok, Sem.run_pure, V.enc, SC.enc]
            · cases h
  · rename_i g g'
    obtain ⟨_, rfl⟩ := hx
    obtain ⟨_, rfl⟩ := hy
    split at h
    · rename_i ht
      split at h
      · rename_i r' hr
        obtain rfl := run_retV h
        obtain ⟨h1, h2⟩ := aggEq_spec (w := w) (ρ := ρ) ht hr o1 o2 .eql
        refine ⟨_, ?_, post_ret hs hP ⟨trivial, rfl⟩⟩
        simp only [V.enc, Sem.run_bind, h1, Result.andThen_ok, binOp_eql_agg, h2, Sem.run_pure, SC.enc]
      · rename_i r' hr
        obtain rfl := run_retV h
        obtain ⟨h1, h2⟩ := aggEq_spec (w := w) (ρ := ρ) ht hr o1 o2 .neq
        refine ⟨_, ?_, post_ret hs hP ⟨trivial, rfl⟩⟩
        simp only [V.enc, Sem.run_bind, h1, Result.andThen_ok, binOp_neq_agg, h2, Sem.run_pure, SC.enc]
      · cases h
    · cases h
  · cases h

theorem indexx_ok {t : TypeId} {x ix : SV} {r : Res} {l : List Nat} {u ui : Value} (h : (indexx E t x ix).run hp = some (r, l)) (hs : HSim ρ A hp w) (hx : R ρ A x u) (hi : R ρ A ix ui) (hP : Post ρ A hp w fid r next) :
    ∃ v, (Instr.index t u ui).run E.P w = .ok v w ∧ next v w := by
  unfold indexx at h
  split at h
  · cases h
  · rename_i i hii
    have := asSC_spec hii
    subst this
    split at h
    · cases h
    · rename_i k n s hnum
      have hui : ui = .int k n := by rw [hi.2]; exact SC.num_enc hnum
      subst hui
      split at h
      · rename_i len e g ht
        obtain ⟨hg, rfl⟩ := hx
        split at h
        · rename_i q hq
          split at h
          · split at h
            · rename_i hin
              cases hp' : partx E e g (n.toNat * E.P.cellsOf e) with
              | none => simp [hp', optRd, Rd.run] at h
              | some v =>
                simp only [hp', Option.map_some, optRd] at h
                obtain rfl := run_retV h
                obtain ⟨h1, h2⟩ := partx_spec (ρ := ρ) (w := w) hq hp' hg
                refine ⟨_, ?_, post_ret hs hP ⟨h2, rfl⟩⟩
                simp only [Instr.index, asIntOf, Sem.run_bind, Sem.run_pure, Result.andThen_ok, run_und ht, V.enc, hin, and_self, if_true, run_size hq]
                exact h1
            · cases h
          · split at h
            · rename_i ha
              split at h
              · rename_i ps vs hc
                obtain rfl := run_retVN h
                obtain ⟨hn, _⟩ := hP (by simp)
                have hin : 0 ≤ n ∧ n < (len : Int) := hn (0 ≤ n ∧ n < (len : Int)) (by simp)
                obtain ⟨h1, h2⟩ := dynCells_spec (ρ := ρ) hc (fun p hp => hn p (by simp [hp]))
                refine ⟨_, ?_, (post_same hs hP rfl rfl rfl fun _ => ⟨?_, rfl⟩).2⟩
                · simp only [Instr.index, asIntOf, Sem.run_bind, Sem.run_pure, Result.andThen_ok, run_und ht, V.enc, hin, and_self, if_true, run_size hq, part, run_isAgg hq, ha]
                  congr 2
                  apply Array.ext'
                  simp only [Array.toList_extract, List.extract_eq_take_drop, cellsOf_ones]
                  rw [Nat.add_sub_cancel_left]
                  apply List.ext_getElem?
                  intro c
                  by_cases hcl : c < E.P.cellsOf e
                  · obtain ⟨v, hv⟩ : ∃ v, vs[c]? = some v := ⟨vs[c]'(by omega), List.getElem?_eq_getElem (by omega)⟩
                    have := (h2 c v hv).1
                    simp only [Nat.zero_add, Nat.add_zero] at this
                    rw [List.getElem?_take_of_lt hcl, List.getElem?_drop, this, List.getElem?_map, hv]; rfl
                  · rw [List.getElem?_take_eq_none (by omega), List.getElem?_eq_none (by simp; omega)]
                · intro y hy
                  obtain ⟨v, hv, rfl⟩ := List.mem_map.1 hy
                  obtain ⟨j, hj⟩ := List.getElem?_of_mem hv
                  exact (h2 j v hj).2 A hg
              · cases h
            · rename_i ha
              split at h
              · rename_i p v hc
                obtain rfl := run_retVN h
                obtain ⟨hn, _⟩ := hP (by simp)
                have hin : 0 ≤ n ∧ n < (len : Int) := hn (0 ≤ n ∧ n < (len : Int)) (by simp)
                have hpp : p := hn p (by simp)
                have h1 := dynCell_spec (ρ := ρ) hc hpp
                simp only [Nat.zero_add, Nat.add_zero] at h1
                refine ⟨_, ?_, (post_same hs hP rfl rfl rfl fun _ => ⟨dynCell_inA hc hpp hg, rfl⟩).2⟩
                simp only [Instr.index, asIntOf, Sem.run_bind, Sem.run_pure, Result.andThen_ok, run_und ht, V.enc, hin, and_self, if_true, run_size hq, part, run_isAgg hq, ha, Bool.false_eq_true, if_false, List.getElem?_toArray, h1]
              · cases h
        · cases h
      · rename_i st b ht
        obtain ⟨_, rfl⟩ := hx
        obtain rfl := run_retVN h
        obtain ⟨hn, _⟩ := hP (by simp)
        have hin : 0 ≤ n ∧ n < (b.data.toList.length : Int) := hn (0 ≤ n ∧ n < (b.data.toList.length : Int)) (by simp)
        refine ⟨_, ?_, (post_same hs hP rfl rfl rfl fun _ => ⟨trivial, rfl⟩).2⟩
        have hlt : n.toNat < b.data.toList.length := by omega
        have e : b[n.toNat]? = some (b.data.toList[n.toNat]) := by
          have hlt' : n.toNat < b.size := by rw [Array.length_toList] at hlt; exact hlt
          rw [getElem?_pos b n.toNat hlt']
          rfl
        simp only [Instr.index, asIntOf, Sem.run_bind, Sem.run_pure, Result.andThen_ok, run_und ht, V.enc, SC.enc, hin.1, if_true, e]
        congr 2
        simp [byteAt, List.getElem?_eq_getElem hlt]
      · cases h

theorem bytesAt_spec {segs : List Seg} {a : XA} {len : Nat} {ns : List Prop} {f : Nat → BitVec 8} (h : bytesAt segs a len = some (ns, f)) (hn : ∀ p ∈ ns, p) : ∀ i, i < len → (cellsOf ρ segs)[a.o + i]? = some (.int .u8 (f i).toNat) := by
  intro i hi
  unfold bytesAt at h
  split at h
  · rename_i s m g hd
    split at h
    · rename_i ho
      simp at h; obtain ⟨rfl, rfl⟩ := h
      have : len ≤ m := hn _ List.mem_cons_self
      have hlt : i < m := by omega
      simp [cellsOf, Seg.cells, XA.o, hd, ho, hlt]
    · simp at h; obtain ⟨rfl, rfl⟩ := h
      have : a.off + len ≤ m := hn _ List.mem_cons_self
      have hlt : a.off + i < m := by omega
      simp [cellsOf, Seg.cells, XA.o, hd, hlt]
  · rename_i s m g d hd
    split at h
    · rename_i ho
      obtain ⟨h1, h2, h3⟩ := ho
      simp at h; obtain ⟨rfl, rfl⟩ := h
      have : d.i + len ≤ m := hn _ List.mem_cons_self
      have hlt : d.i + i < m := by omega
      simp [cellsOf, Seg.cells, XA.o, hd, h1, h2, h3, hlt]
    · cases h
  · cases h

theorem run_bytesToString {a : Addr} {len cap : Nat} {f : Nat → BitVec 8} (h : ∀ i, i < len → w.cell? (a.add i) = some (.int .u8 (f i).toNat)) :
    (Conv.bytesToString (.slice (some a) len cap)).run E.P w = .ok (.string (bytesOf len f)) w := by
  have hl := run_loadCells_of (P := E.P) (w := w) (a := a) (l := (List.range len).map fun i => Value.int .u8 (f i).toNat) (fun j v hj => by
    have hj' := (List.getElem?_eq_some_iff.1 hj).1
    simp at hj'
    rw [h j hj']
    simpa [hj'] using hj)
  rw [List.length_map, List.length_range] at hl
  simp only [Conv.bytesToString, Sem.run_bind, hl, Result.andThen_ok]
  rw [← Array.forIn_toList, ofNat_bytes len f .empty]
  have := run_toString (E := E) (w := w) ((List.range len).map f) ByteArray.empty
  refine (congrArg (fun r => Result.andThen r fun a w' => Sem.run E.P (pure (Value.string a)) w') this).trans ?_
  simp only [Result.andThen_ok, Sem.run_pure]
  congr 2
  simp [bytesOf]

theorem convertx_ok {s t : TypeId} {x : SV} {r : Res} {l : List Nat} {u : Value} (h : (convertx E s t x).run hp = some (r, l)) (hs : HSim ρ A hp w) (hx : R ρ A x u) (hP : Post ρ A hp w fid r next) :
    ∃ v, (convert s t u).run E.P w = .ok v w ∧ next v w := by
  unfold convertx at h
  split at h
  · rename_i us k h1 h2
    split at h
    · rename_i v hv
      have := asSC_spec hv
      subst this
      obtain ⟨_, rfl⟩ := hx
      cases hc : v.conv k with
      | none => simp [hc, optRd, Rd.run] at h
      | some z =>
        simp only [hc, Option.map_some, optRd] at h
        obtain rfl := run_retV h
        obtain ⟨k', n, e1, e2⟩ := conv_spec (ρ := ρ) hc
        have hz : z.inA A := by
          unfold SC.conv at hc; split at hc <;> first | (cases hc; done) | (simp at hc; subst hc; trivial)
        refine ⟨_, ?_, post_ret hs hP ⟨hz, rfl⟩⟩
        simp only [convert, Sem.run_bind, run_und h1, run_und h2, Result.andThen_ok, V.enc, e1, e2]
        cases us <;> rfl
    · cases h
  · rename_i e h1 h2
    split at h
    · rename_i h3
      obtain ⟨_, rfl⟩ := hx
      obtain rfl := run_retV h
      refine ⟨_, ?_, post_ret hs hP ⟨trivial, rfl⟩⟩
      simp [convert, run_und h1, run_und h2, run_und h3, V.enc, SC.enc, Conv.bytesToString]
    · rename_i a sl len cap h3
      obtain ⟨hA, rfl⟩ := hx
      obtain ⟨b, l', hb, h⟩ := run_get h
      split at h
      · rename_i ns f hf
        obtain rfl := run_retVN h
        obtain ⟨hn, _⟩ := hP (by simp)
        refine ⟨_, ?_, (post_same hs hP rfl rfl rfl fun _ => ⟨trivial, rfl⟩).2⟩
        simp only [convert, Sem.run_bind, run_und h1, run_und h2, run_und h3, Result.andThen_ok, V.enc, SC.enc]
        refine run_bytesToString fun i hi => ?_
        rw [XA.enc, Addr.add_add]
        exact hs.cell hb (bytesAt_spec hf hn i hi)
      · cases h
    · cases h
  · rename_i h1 h2
    split at h
    · rename_i st b hb
      have := asSC_spec hb
      subst this
      obtain ⟨_, rfl⟩ := hx
      obtain rfl := run_retV h
      refine ⟨_, ?_, post_ret hs hP ⟨trivial, rfl⟩⟩
      simp [convert, run_und h1, run_und h2, V.enc, SC.enc]
    · cases h
  · cases h

theorem mkFnx_ok {fn : Fn} {xs ys : List SV} {r : Res} {l : List Nat} {us vs : List Value} (h : (mkFnx fn xs ys).run hp = some (r, l)) (hs : HSim ρ A hp w) (hx : ∀ (i : Nat) (x : SV), xs[i]? = some x → ∃ u, us[i]? = some u ∧ R ρ A x u) (hxl : us.length = xs.length)
    (hy : ∀ (i : Nat) (x : SV), ys[i]? = some x → ∃ u, vs[i]? = some u ∧ R ρ A x u) (hyl : vs.length = ys.length) (hP : Post ρ A hp w fid r next) : next (.func fn us.toArray vs.toArray) w := by
  have key : ∀ (xs : List SV) (us : List Value) (zs : List SC), mapAll asSC xs = some zs → (∀ (i : Nat) (x : SV), xs[i]? = some x → ∃ u, us[i]? = some u ∧ R ρ A x u) → us.length = xs.length → us = zs.map (SC.enc ρ) ∧ ∀ z ∈ zs, z.inA A := by
    intro xs us zs hz hx hl
    obtain ⟨e1, e2⟩ := mapAll_spec hz
    constructor
    · apply List.ext_getElem?
      intro i
      rw [List.getElem?_map]
      cases hi : xs[i]? with
      | none =>
        have := List.getElem?_eq_none_iff.1 hi
        rw [List.getElem?_eq_none (by omega), List.getElem?_eq_none (by omega)]; rfl
      | some x =>
        obtain ⟨u, h1, h2⟩ := hx i x hi
        obtain ⟨z, h3, h4⟩ := e2 i x hi
        have := asSC_spec h4
        subst this
        rw [h1, h3, h2.2]; rfl
    · intro z hz
      obtain ⟨i, hi⟩ := List.getElem?_of_mem hz
      have hlt := (List.getElem?_eq_some_iff.1 hi).1
      obtain ⟨x, hxi⟩ : ∃ x, xs[i]? = some x := ⟨xs[i]'(by omega), List.getElem?_eq_getElem (by omega)⟩
      obtain ⟨u, h1, h2⟩ := hx i x hxi
      obtain ⟨z', h3, h4⟩ := e2 i x hxi
      rw [hi] at h3
      simp at h3
      subst h3
      have := asSC_spec h4
      subst this
      exact h2.1
  unfold mkFnx at h
  split at h
  · rename_i x y h1 h2
    obtain rfl := run_retV h
    obtain ⟨rfl, i1⟩ := key xs us x h1 hx hxl
    obtain ⟨rfl, i2⟩ := key ys vs y h2 hy hyl
    exact post_ret hs hP ⟨⟨i1, i2⟩, rfl⟩
  · cases h

end
end Go.X
