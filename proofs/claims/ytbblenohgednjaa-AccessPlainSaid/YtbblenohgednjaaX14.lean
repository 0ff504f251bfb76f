import Derived.Test.YtbblenohgednjaaX13
/- A part of the walking machine: shown once for every program of the model; no condition of its own. -/
/- Regions whose order is drawn. -/
namespace Go.X

def dstAt (ops : Array Oper) (k : Nat) : Option Tmp := (ops[k]?).bind (·.dst)
def Out.wids (o : Out) : List Nat := o.wr.map (·.1)

/-- The state behind those of 'l' that 'p' lets in. -/
def acc (ops : Array Oper) (o : Nat → Out) (p : Nat → Bool) : List Nat → S → S
  | [], s => s
  | k :: r, s => acc ops o p r (if p k then (o k).app (dstAt ops k) s else s)

theorem acc_append (ops : Array Oper) (o : Nat → Out) (p : Nat → Bool) : ∀ (l m : List Nat) (s : S), acc ops o p (l ++ m) s = acc ops o p m (acc ops o p l s)
  | [], m, s => rfl
  | k :: r, m, s => by simp only [List.cons_append, acc]; exact acc_append ops o p r m _

theorem app_tm_ne {o : Out} {dst : Option Tmp} {s : S} {t : Nat} (h : dst ≠ some t) : (o.app dst s).tm t = s.tm t := by
  cases dst with
  | none => rfl
  | some d =>
    have : ¬ t = d := fun e => h (e ▸ rfl)
    simp [Out.app, putTm, upd, this]

theorem app_tm_eq {o : Out} {s : S} {t : Nat} : (o.app (some t) s).tm t = o.val := by simp [Out.app, putTm, upd]

theorem applyWrs_eq : ∀ (l : List (Nat × Option Blk)) {hp hp' : Hp} {i : Nat}, hp i = hp' i → applyWrs hp l i = applyWrs hp' l i
  | [], _, _, _, h => h
  | (j, b) :: r, hp, hp', i, h => by
    simp only [applyWrs]
    refine applyWrs_eq r ?_
    by_cases e : i = j
    · subst e; simp [upd]
    · simp [upd, e, h]

theorem applyWrs_in : ∀ (l : List (Nat × Option Blk)) (hp hp' : Hp) {i : Nat}, i ∈ l.map (·.1) → applyWrs hp l i = applyWrs hp' l i
  | [], _, _, i, h => by simp at h
  | (j, b) :: r, hp, hp', i, h => by
    simp only [applyWrs]
    by_cases e : i = j
    · subst e
      exact applyWrs_eq r (by simp [upd])
    · simp only [List.map_cons, List.mem_cons, e, false_or] at h
      exact applyWrs_in r _ _ h

theorem acc_tm {ops : Array Oper} {o o' : Nat → Out} {p q : Nat → Bool} {t : Nat} : ∀ {l : List Nat} {s s' : S}, (∀ k ∈ l, dstAt ops k = some t → p k = q k ∧ (p k = true → o k = o' k)) → s.tm t = s'.tm t →
    (acc ops o p l s).tm t = (acc ops o' q l s').tm t
  | [], _, _, _, hs => hs
  | k :: r, s, s', h, hs => by
    simp only [acc]
    refine acc_tm (fun j hj => h j (by simp [hj])) ?_
    by_cases hd : dstAt ops k = some t
    · obtain ⟨h1, h2⟩ := h k (by simp) hd
      rw [← h1]
      cases hp : p k with
      | true => simp only [if_true]; rw [hd, app_tm_eq, app_tm_eq, h2 hp]
      | false => simpa using hs
    · have e1 : (if p k = true then (o k).app (dstAt ops k) s else s).tm t = s.tm t := by split <;> first | exact app_tm_ne hd | rfl
      have e2 : (if q k = true then (o' k).app (dstAt ops k) s' else s').tm t = s'.tm t := by split <;> first | exact app_tm_ne hd | rfl
      rw [e1, e2, hs]

theorem acc_hp {ops : Array Oper} {o o' : Nat → Out} {p q : Nat → Bool} {i : Nat} : ∀ {l : List Nat} {s s' : S}, (∀ k ∈ l, (p k = true ∧ i ∈ (o k).wids ∨ q k = true ∧ i ∈ (o' k).wids) → p k = q k ∧ o k = o' k) → s.hp i = s'.hp i →
    (acc ops o p l s).hp i = (acc ops o' q l s').hp i
  | [], _, _, _, hs => hs
  | k :: r, s, s', h, hs => by
    simp only [acc]
    refine acc_hp (fun j hj => h j (by simp [hj])) ?_
    by_cases hd : p k = true ∧ i ∈ (o k).wids ∨ q k = true ∧ i ∈ (o' k).wids
    · obtain ⟨h1, h2⟩ := h k (by simp) hd
      rw [← h1, ← h2]
      split
      · exact applyWrs_eq _ hs
      · exact hs
    · rw [not_or] at hd
      have e1 : (if p k = true then (o k).app (dstAt ops k) s else s).hp i = s.hp i := by
        split
        · rename_i hp; exact applyWrs_other _ _ _ fun hm => hd.1 ⟨hp, hm⟩
        · rfl
      have e2 : (if q k = true then (o' k).app (dstAt ops k) s' else s').hp i = s'.hp i := by
        split
        · rename_i hp; exact applyWrs_other _ _ _ fun hm => hd.2 ⟨hp, hm⟩
        · rfl
      rw [e1, e2, hs]

/-! ### What a step looks at -/
theorem ownAll_congr : ∀ {l : List (Nat × Option Blk)} {hp hp' : Hp}, (∀ i ∈ l.map (·.1), hp' i = hp i) → ownAll hp' l = ownAll hp l
  | [], _, _, _ => rfl
  | (i, b) :: r, hp, hp', h => by
    simp only [ownAll]
    rw [h i (by simp), ownAll_congr fun j hj => h j (by simp at hj ⊢; exact .inr hj)]

theorem grdNeeds_congr {g : Bool} {tm tm' : Nat → SV} : ∀ {l : List Nat}, (∀ t ∈ l, tm' t = tm t) → grdNeeds g tm' l = grdNeeds g tm l
  | [], _ => rfl
  | x :: r, h => by
    simp only [grdNeeds]
    rw [h x (by simp), grdNeeds_congr fun t ht => h t (by simp [ht])]

theorem looks_op {ops : Array Oper} {o : Oper} {t : Nat} (h : t ∈ opTmps o.op) : t ∈ o.looksAt ops := List.mem_append_left _ h

theorem stepO_congr {E : Env} {ops : Array Oper} {nt fid c : Nat} {o : Oper} {s s' : S} {out : Out} (h : stepO E ops nt fid c o s = some out)
    (ht : ∀ t ∈ o.looksAt ops, s'.tm t = s.tm t) (hh : ∀ i, i ∈ out.rds ∨ i ∈ out.wids → s'.hp i = s.hp i) : stepO E ops nt fid c o s' = some out := by
  have hop : ∀ x ∈ o.op.operands, ∀ t, x = .tmp t → s'.tm t = s.tm t := fun x hx t e => ht t (looks_op (by
    subst e; exact List.mem_filterMap.2 ⟨.tmp t, by simpa using hx, rfl⟩))
  have e1 : ∀ fid c, opx E o.op (ovOf s'.tm) fid c = opx E o.op (ovOf s.tm) fid c := fun fid c => opx_congr fun x hx => by
    cases x with
    | tmp t => exact hop _ hx t rfl
    | _ => rfl
  have e2 : ∀ fid c, opx E o.op (ovG (gTmps o.op) s'.tm) fid c = opx E o.op (ovG (gTmps o.op) s.tm) fid c := fun fid c => opx_congr fun x hx => by
    cases x with
    | tmp t => simp only [ovG]; rw [hop _ hx t rfl]
    | _ => rfl
  have e3 : ∀ g, grdNeeds g s'.tm (gTmps o.op) = grdNeeds g s.tm (gTmps o.op) := fun g => grdNeeds_congr fun t h => ht t (looks_op (gTmps_sub h))
  have e4 : gdOf ops s'.tm o = gdOf ops s.tm o := by
    unfold gdOf
    cases hg : o.guard with
    | none => rfl
    | some gw =>
      obtain ⟨g, want⟩ := gw
      simp only []
      cases hd : (ops[g]?).bind (·.dst) with
      | none => rfl
      | some d =>
        simp only []
        rw [ht d (List.mem_append_right _ (by simp [hg, hd]))]
  unfold stepO at h ⊢
  rw [e4]
  simp only [e1, e2, e3]
  split at h
  · rename_i hd
    rw [if_pos hd]
    cases hgd : gdOf ops s.tm o with
    | bad => rw [hgd] at h; cases h
    | no => rw [hgd] at h; exact h
    | yes =>
      rw [hgd] at h
      simp only [] at h ⊢
      cases hr : (opx E o.op (ovOf s.tm) fid c).run s.hp with
      | none => rw [hr] at h; cases h
      | some q =>
        obtain ⟨r, l⟩ := q
        rw [hr] at h
        simp only [] at h
        split at h
        · rename_i hc
          simp only [Option.some.injEq] at h
          subst h
          rw [Rd.run_congr hr (fun i hi => hh i (.inl hi))]
          simp only []
          rw [ownAll_congr fun i hi => hh i (.inr (by simp only [Out.wids, List.map_append, List.mem_append]; exact .inl hi)), if_pos hc]
        · cases h
    | dyn g =>
      rw [hgd] at h
      simp only [] at h ⊢
      split at h
      · rename_i ns v l hr
        simp only [Option.some.injEq] at h
        subst h
        rw [Rd.run_congr hr (fun i hi => hh i (.inl hi))]
      · cases h
  · cases h

/-! ### The order of the text -/
def foldO (E : Env) (ops : Array Oper) (nt base : Nat) (cs : Nat → Nat) : List Nat → S → Option (List (Nat × Out) × S)
  | [], s => some ([], s)
  | k :: r, s => match ops[k]? with
    | none => none
    | some o => match stepO E ops nt (base + 32 * k) (cs k) o s with
      | none => none
      | some out => match foldO E ops nt base cs r (out.app o.dst s) with
        | none => none
        | some (l, s') => some ((k, out) :: l, s')

theorem foldO_keys {E : Env} {ops : Array Oper} {nt base : Nat} {cs : Nat → Nat} : ∀ {ks : List Nat} {s s' : S} {l : List (Nat × Out)}, foldO E ops nt base cs ks s = some (l, s') → l.map (·.1) = ks
  | [], s, s', l, h => by simp [foldO] at h; simp [h.1]
  | k :: r, s, s', l, h => by
    simp only [foldO] at h
    split at h
    · cases h
    · split at h
      · cases h
      · split at h
        · cases h
        · rename_i l' s2 hf
          simp at h
          obtain ⟨rfl, rfl⟩ := h
          simp [foldO_keys hf]

theorem foldO_spec {E : Env} {ops : Array Oper} {nt base : Nat} {cs : Nat → Nat} {o : Nat → Out} : ∀ {ks : List Nat} {s s' : S} {l : List (Nat × Out)}, foldO E ops nt base cs ks s = some (l, s') → (∀ x ∈ l, o x.1 = x.2) →
    s' = acc ops o (fun _ => true) ks s ∧ ∀ pre k post, ks = pre ++ k :: post → ∃ op, ops[k]? = some op ∧ stepO E ops nt (base + 32 * k) (cs k) op (acc ops o (fun _ => true) pre s) = some (o k)
  | [], s, s', l, h, _ => by
    simp [foldO] at h
    exact ⟨h.2.symm, fun pre k post e => by simp at e⟩
  | k :: r, s, s', l, h, ho => by
    simp only [foldO] at h
    split at h
    · cases h
    · rename_i op hop
      split at h
      · cases h
      · rename_i out hout
        split at h
        · cases h
        · rename_i l' s2 hf
          simp at h
          obtain ⟨rfl, rfl⟩ := h
          have hk : o k = out := ho (k, out) (by simp)
          obtain ⟨i1, i2⟩ := foldO_spec hf (fun x hx => ho x (by simp [hx]))
          have hd : dstAt ops k = op.dst := by simp [dstAt, hop]
          refine ⟨by simp only [acc, if_true, hk, hd]; exact i1, fun pre j post e => ?_⟩
          cases pre with
          | nil =>
            simp at e
            obtain ⟨rfl, rfl⟩ := e
            exact ⟨op, hop, by rw [hk]; exact hout⟩
          | cons x pre =>
            simp at e
            obtain ⟨rfl, e⟩ := e
            obtain ⟨op', h1, h2⟩ := i2 pre j post e
            refine ⟨op', h1, ?_⟩
            simp only [acc, if_true, hk, hd]
            exact h2

end Go.X
