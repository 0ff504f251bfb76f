import Derived.Test.YtbblenohgednjaaX12
/- A part of the walking machine: shown once for every program of the model; no condition of its own. -/
/- Whole regions: in the text's order, and in an order that is drawn. -/
namespace Go.X

/-! ### What an operation looks at -/
theorem placeAll_congr {ov ov' : Operand → SV} {place : Nat → Option (Nat × Nat)} : ∀ {ps : List (Nat × Operand)} {l : List Seg}, (∀ x ∈ ps.map (·.2), ov x = ov' x) → placeAll ov place ps l = placeAll ov' place ps l
  | [], l, _ => rfl
  | (i, x) :: r, l, h => by
    have ih : ∀ l, placeAll ov place r l = placeAll ov' place r l := fun l => placeAll_congr fun y hy => h y (by simp at hy ⊢; exact .inr hy)
    simp only [placeAll]
    rw [h x (by simp)]
    simp only [ih]

theorem opx_congr {E : Env} {op : Op} {ov ov' : Operand → SV} {fid c : Nat} (h : ∀ x ∈ op.operands, ov x = ov' x) : opx E op ov fid c = opx E op ov' fid c := by
  have lst : ∀ l : Array Operand, (∀ x ∈ l, ov x = ov' x) → l.toList.map ov = l.toList.map ov' := fun l hl => List.map_congr_left fun x hx => hl x (by simpa using hx)
  cases op <;> simp only [Op.operands] at h <;> simp only [opx]
  case build t ps =>
    have hp : ∀ place l, placeAll ov place ps.toList l = placeAll ov' place ps.toList l := fun place l => placeAll_congr fun x hx => h x (by simpa using hx)
    simp only [buildx, hp]
  case buildSlice t n ps =>
    have hp : ∀ place l, placeAll ov place ps.toList l = placeAll ov' place ps.toList l := fun place l => placeAll_congr fun x hx => h x (by simpa using hx)
    simp only [buildSlicex, hp]
  case makeFunc fn first cap =>
    rw [lst first fun x hx => h x (by simp [hx]), lst cap fun x hx => h x (by simp [hx])]
  case slice t x lo hi mx =>
    have hb : ∀ d (o : Option Operand), (∀ y, o = some y → ov y = ov' y) → boundOf ov d o = boundOf ov' d o := by
      intro d o ho
      cases o with
      | none => rfl
      | some y => simp only [boundOf, ho y rfl]
    have h1 : ∀ d, boundOf ov d lo = boundOf ov' d lo := fun d => hb d lo fun y hy => h y (by simp [hy])
    have h2 : ∀ d, boundOf ov d hi = boundOf ov' d hi := fun d => hb d hi fun y hy => h y (by simp [hy])
    simp only [slicex, h1, h2, h x (by simp)]
  case call q =>
    obtain ⟨callee, args, argTypes⟩ := q
    simp only [Call.operands] at h
    have ha : args.toList.map ov = args.toList.map ov' := lst args fun x hx => h x (by simp [hx])
    have ha' : ∀ x ∈ args.toList, ov x = ov' x := fun x hx => h x (by simp at hx ⊢; exact .inr hx)
    cases callee with
    | value f => simp only []; rw [h f (by simp), ha]
    | invoke _ _ => rfl
    | builtin b =>
      simp only []
      split
      · rename_i hx _; rw [hx] at ha'; rw [ha' _ (by simp)]
      · rw [ha]
      · rw [ha]
      · rename_i hx _; rw [hx] at ha'; rw [ha' _ (by simp), ha' _ (by simp)]
      · rename_i hx _; rw [hx] at ha'; rw [ha' _ (by simp), ha' _ (by simp)]
      · rfl
  all_goals (first | rfl | (simp_all; done))

/-- Whose answer hangs on the number that is left open. -/
def usesC (E : Env) (o : Oper) : Bool :=
  match o.op with
  | .call q => match q.callee with
    | .builtin .append => true
    | .value (.func g) => E.C g
    | .value _ => true
    | _ => false
  | _ => false

theorem callx_noC {E : Env} (hE : EnvOk E) {tm : Nat → SV} {g : FuncId} (hC : E.C g = false) {args : List SV} {fid c : Nat} : callx E (ovOf tm (.func g)) args fid c = callx E (ovOf tm (.func g)) args fid 0 := by
  unfold callx
  split
  · rename_i g' first cap vs hf hm
    simp only [ovOf, SV.ev.injEq, V.fn.injEq, Fn.func.injEq] at hf
    obtain ⟨rfl, _, _⟩ := hf
    cases hM : E.F g with
    | none => rfl
    | some M => simp only []; exact hE.C g M hM hC _ _ _
  · rfl

theorem opx_noC {E : Env} (hE : EnvOk E) {o : Oper} (h : usesC E o = false) {ov : Operand → SV} {tm : Nat → SV} (hov : ∀ g, ov (.func g) = ovOf tm (.func g)) {fid c : Nat} : opx E o.op ov fid c = opx E o.op ov fid 0 := by
  unfold usesC at h
  cases hop : o.op with
  | call q =>
    rw [hop] at h
    obtain ⟨callee, args, argTypes⟩ := q
    simp only [] at h
    simp only [opx]
    cases callee with
    | value f =>
      simp only []
      cases f with
      | func g => simp only [] at h; rw [hov]; exact callx_noC hE h
      | _ => simp at h
    | invoke _ _ => rfl
    | builtin b =>
      simp only []
      generalize args.toList = l1, argTypes.toList = l2
      split
      · rfl
      · rfl
      · rfl
      · simp at h
      · rfl
      · rfl
  | _ => simp only [opx]

theorem stepO_noC {E : Env} (hE : EnvOk E) {ops : Array Oper} {nt fid c : Nat} {o : Oper} {s : S} (h : usesC E o = false) : stepO E ops nt fid c o s = stepO E ops nt fid 0 o s := by
  unfold stepO
  rw [opx_noC hE h (ov := ovOf s.tm) (tm := s.tm) (fun _ => rfl) (c := c), opx_noC hE h (ov := ovG (gTmps o.op) s.tm) (tm := s.tm) (fun _ => rfl) (c := c)]

/-- Likewise, by what stands in the slots. -/
def usesCs (E : Env) (tm : Nat → SV) (o : Oper) : Bool :=
  match o.op with
  | .call q => match q.callee with
    | .builtin .append => true
    | .value f => match ovOf tm f with
      | .ev (.fn (.func g) _ _) => E.C g
      | .grd _ (.fn (.func g) _ _) => E.C g
      | _ => true
    | _ => false
  | _ => false

theorem callx_noCs {E : Env} (hE : EnvOk E) {f : SV} {g : FuncId} {a b : List SC} (hf : f = .ev (.fn (.func g) a b)) (hC : E.C g = false) {args : List SV} {fid c : Nat} : callx E f args fid c = callx E f args fid 0 := by
  subst hf
  unfold callx
  split
  · rename_i g' first cap vs hf hm
    simp only [SV.ev.injEq, V.fn.injEq, Fn.func.injEq] at hf
    obtain ⟨rfl, _, _⟩ := hf
    cases hM : E.F g with
    | none => rfl
    | some M => simp only []; exact hE.C g M hM hC _ _ _
  · rfl

theorem opx_noCs {E : Env} (hE : EnvOk E) {o : Oper} {tm : Nat → SV} (h : usesCs E tm o = false) {ov : Operand → SV} (hov : ∀ f, ov f = ovOf tm f ∨ ∃ g v, ovOf tm f = .grd g v ∧ ov f = .ev v) {fid c : Nat} : opx E o.op ov fid c = opx E o.op ov fid 0 := by
  unfold usesCs at h
  cases hop : o.op with
  | call q =>
    rw [hop] at h
    obtain ⟨callee, args, argTypes⟩ := q
    simp only [] at h
    simp only [opx]
    cases callee with
    | value f =>
      simp only [] at h ⊢
      split at h
      · rename_i g a b hf
        rcases hov f with e | ⟨g', v, e, _⟩
        · exact callx_noCs hE (e.trans hf) h
        · rw [hf] at e; cases e
      · rename_i g' g a b hf
        rcases hov f with e | ⟨g'', v, e, e2⟩
        · rw [e, hf]; rfl
        · rw [hf] at e
          simp only [SV.grd.injEq] at e
          exact callx_noCs hE (e2.trans (by rw [← e.2])) h
      · cases h
    | invoke _ _ => rfl
    | builtin b =>
      simp only []
      generalize args.toList = l1, argTypes.toList = l2
      split
      · rfl
      · rfl
      · rfl
      · simp at h
      · rfl
      · rfl
  | _ => simp only [opx]

theorem stepO_noCs {E : Env} (hE : EnvOk E) {ops : Array Oper} {nt fid c : Nat} {o : Oper} {s : S} (h : usesCs E s.tm o = false) : stepO E ops nt fid c o s = stepO E ops nt fid 0 o s := by
  unfold stepO
  rw [opx_noCs hE h (ov := ovOf s.tm) (fun _ => .inl rfl) (c := c), opx_noCs hE h (ov := ovG (gTmps o.op) s.tm) (fun f => by
    cases f with
    | tmp t =>
      simp only [ovOf, ovG]
      cases ht : s.tm t with
      | grd g v =>
        simp only []
        split
        · exact .inr ⟨g, v, rfl, rfl⟩
        · exact .inl rfl
      | _ => exact .inl rfl
    | _ => exact .inl rfl) (c := c)]

/-! ### Calls that have more than one answer -/
def callT (B : FuncId → Option (List V → Nat → Hp → T (Res × List Nat))) (f : SV) (args : List SV) (fid : Nat) (hp : Hp) : Option (T (Res × List Nat)) :=
  match f, mapAll asV args with
  | .ev (.fn (.func g) first cap), some vs => match B g with
    | some M => some (M (first.map .sc ++ vs ++ cap.map .sc) fid hp)
    | none => none
  | _, _ => none

theorem callT_ok {P : Program} {B : FuncId → Option (List V → Nat → Hp → T (Res × List Nat))} {ρ : Nat → Addr} {A : Nat → Prop} {hp : Hp} {w : World} {fid : Nat} {f : SV} {args : List SV} {us : List Value} {uf : Value} {next' : Ending → World → Prop}
    (hB : ∀ g M, B g = some M → BModelOk P g M)
    (hs : HSim ρ A hp w) (hfv : R ρ A f uf) (hx : ∀ (i : Nat) (x : SV), args[i]? = some x → ∃ u, us[i]? = some u ∧ R ρ A x u) (hl : us.length = args.length) (hf : ∀ j, fid ≤ j → j < fid + 32 → ¬ A j)
    {t : T (Res × List Nat)} (ht : callT B f args fid hp = some t) (h : holds t (fun x => Post ρ A hp w fid x.1 (fun v w' => next' (.returned v) w'))) :
    (∃ g all, ((do let d ← Deferred.ofValue uf us.toArray; invoke d.target d.args) : Sem Next).run P w = .ok (.enter g all) w ∧ Calls P g all w next') ∨
    ∃ v w', ((do let d ← Deferred.ofValue uf us.toArray; invoke d.target d.args) : Sem Next).run P w = .ok (.value v) w' ∧ next' (.returned v) w' := by
  unfold callT at ht
  split at ht
  case h_2 => cases ht
  rename_i g first cap vs hvs
  split at ht
  case h_2 => cases ht
  rename_i M hM
  simp only [Option.some.injEq] at ht
  subst ht
  obtain ⟨e1, e2⟩ := mapV_spec hvs hx hl
  obtain ⟨⟨hfi, hci⟩, huf⟩ := hfv
  have ef : ∀ l : List SC, (l.map V.sc).map (V.enc ρ) = l.map (SC.enc ρ) := by
    intro l; rw [List.map_map]; rfl
  have hin : ∀ v ∈ first.map V.sc ++ vs ++ cap.map V.sc, v.inA A := by
    intro v hv
    simp only [List.mem_append, List.mem_map] at hv
    rcases hv with (⟨s, hs, rfl⟩ | hv) | ⟨s, hs, rfl⟩
    · exact hfi s hs
    · exact e2 v hv
    · exact hci s hs
  rcases hB g M hM with ⟨⟨fn, hfn, hname, hbody⟩, hcall⟩ | hext
  · left
    refine ⟨g, ((first.map V.sc ++ vs ++ cap.map V.sc).map (V.enc ρ)).toArray, ?_, hcall _ ρ A hp w fid next' hs hin hf h⟩
    rw [huf]
    simp only [V.enc, Deferred.ofValue, Sem.run_bind, Sem.run_pure, Result.andThen_ok, invoke, callFunc, run_program, hfn, hname, hbody, Bool.false_eq_true, if_false]
    congr 2
    rw [e1, List.map_append, List.map_append, ef, ef]
    simp
  · right
    obtain ⟨v, w', h1, h2⟩ := hext _ ρ A hp w fid (fun v w' => next' (.returned v) w') hs hin hf h
    refine ⟨v, w', ?_, h2⟩
    rw [huf]
    simp only [V.enc, Deferred.ofValue, Sem.run_bind, Sem.run_pure, Result.andThen_ok, invoke]
    rw [← h1]
    congr 2
    rw [e1, List.map_append, List.map_append, ef, ef]
    simp

/-- The tree of a call, where the one who is called has one. -/
def callTree (E : Env) (o : Oper) (tm : Nat → SV) (fid : Nat) (hp : Hp) : Option (T (Res × List Nat)) :=
  match o.guard, o.op with
  | none, .call q => match q.callee with
    | .value f => callT E.B (ovOf tm f) (q.args.toList.map (ovOf tm)) fid hp
    | _ => none
  | _, _ => none

/-- One operation, as a tree. -/
def stepT (E : Env) (ops : Array Oper) (nt fid c : Nat) (o : Oper) (s : S) : T Out :=
  match callTree E o s.tm fid s.hp with
  | some t => if dstOk nt o.dst then t.bind fun x =>
      if decide (x.1.news.length ≤ 32) && ownAll s.hp x.1.wrs then .leaf ⟨x.1.asm, x.1.need, x.2, x.1.val, x.1.wrs ++ newPairs fid x.1.news⟩ else .fail
    else .fail
  | none => match stepO E ops nt fid c o s with
    | some out => .leaf out
    | none => .fail

theorem stepT_ok {E : Env} {K : Ctx} {nt base : Nat} {L : Nat → Prop} {ρ : Nat → Addr} {A : Nat → Prop} {s : S} {a : Act} {w : World} (hE : EnvOk E) {ops : Array Oper} {k : Nat} {o : Oper} {Kn : Act → World → Prop} {Q : Exit → Act → World → Prop}
    (hi : ops[k]? = some o) (hsim : RSim K nt base L ρ A s a w) (hk : ¬ L k)
    (h : ∀ c, holds (stepT E ops nt (base + 32 * k) c o s) (fun out => (∀ p ∈ out.asm, p) → (∀ p ∈ out.need, p) ∧
      ∀ ρ' A' a' w', RSim K nt base (fun j => L j ∨ j = k) ρ' A' (out.app o.dst s) a' w' → Kn a' w')) : wpOp E.P ops Q k Kn a w := by
  cases ht : callTree E o s.tm (base + 32 * k) s.hp with
  | none =>
    refine stepO_ok hE hi hsim hk fun c => ?_
    have := h c
    simp only [stepT, ht] at this
    cases hst : stepO E ops nt (base + 32 * k) c o s with
    | none => rw [hst] at this; exact this.elim
    | some out => rw [hst] at this; exact ⟨out, rfl, this⟩
  | some t =>
    have h0 := h 0
    simp only [stepT, ht] at h0
    split at h0
    case isFalse => exact h0.elim
    rename_i hd
    rw [holds_bind] at h0
    unfold wpOp
    simp only [hi]
    unfold callTree at ht
    obtain ⟨dst, op, type, pos, after, guard⟩ := o
    simp only [] at ht hd h0
    cases guard with
    | some g => cases ht
    | none =>
      cases op with
      | call q =>
        obtain ⟨callee, args, argTypes⟩ := q
        cases callee with
        | value f =>
          simp only [] at ht
          have hw : Region.wanted { dst, op := .call { callee := .value f, args, argTypes }, type, pos, after, guard := none } (yielded ops a.tmps) = true := rfl
          rw [hw]
          simp only [if_true]
          left
          have hfresh : ∀ j, base + 32 * k ≤ j → j < base + 32 * k + 32 → ¬ A j := by
            intro j h1 h2 hA
            rcases hsim.bd j hA with hb | ⟨i, hL, h3, h4⟩
            · omega
            · have : i = k := by omega
              exact hk (this ▸ hL)
          have key := callT_ok (P := E.P) (next' := fun
            | .returned v, w'' => Kn (a.put dst v) w''
            | .panicked chain, w'' => Q (.panic chain) a w''
            | .outgrown, _ => LetsOut Q) hE.B hsim.hs (R_ov hsim.tm f) (us := args.toList.map a.eval) (fun i x hx => by
              rw [List.getElem?_map] at hx
              cases hi : args.toList[i]? with
              | none => simp [hi] at hx
              | some y =>
                simp [hi] at hx
                subst hx
                exact ⟨a.eval y, by simp [← Array.getElem?_toList, hi], R_ov hsim.tm y⟩) (by simp) hfresh ht (holds_mono (fun x hx => by
              obtain ⟨r, l⟩ := x
              intro ha
              simp only [] at hx ha ⊢
              split at hx
              · rename_i hc
                simp only [Bool.and_eq_true, decide_eq_true_eq] at hc
                obtain ⟨hn, hkk⟩ := hx ha
                exact ⟨hn, fun ρ' A' v w' hext hs' hv hfr hnew => hkk ρ' A' _ w' (hsim.step (o := { dst, op := .call { callee := .value f, args, argTypes }, type, pos, after, guard := none }) hd hk hc.1 hc.2 hext hs' hv hfr hnew)⟩
              · exact hx.elim) h0)
          unfold Oper.wp
          rcases key with ⟨g, all, h1, h2⟩ | ⟨v, w', h1, h2⟩
          · simp only [execOp, resolve, Sem.run_bind] at h1 ⊢
            rw [show args.map a.eval = (args.toList.map a.eval).toArray by apply Array.ext'; simp]
            rw [h1]
            exact h2
          · simp only [execOp, resolve, Sem.run_bind] at h1 ⊢
            rw [show args.map a.eval = (args.toList.map a.eval).toArray by apply Array.ext'; simp]
            rw [h1]
            exact h2
        | invoke _ _ => cases ht
        | builtin _ => cases ht
      | _ => cases ht

theorem stepT_noC {E : Env} (hE : EnvOk E) {ops : Array Oper} {nt fid c : Nat} {o : Oper} {s : S} (h : usesCs E s.tm o = false) : stepT E ops nt fid c o s = stepT E ops nt fid 0 o s := by
  unfold stepT
  rw [stepO_noCs hE h]

/-! ### One after the other -/
def seqT (E : Env) (ops : Array Oper) (nt base : Nat) : List Nat → S → T S
  | [], s => .leaf s
  | k :: r, s => match ops[k]? with
    | none => .fail
    | some o =>
      let go (c : Nat) : T S := (stepT E ops nt (base + 32 * k) c o s).bind fun out => asms out.asm (needs out.need (seqT E ops nt base r (out.app o.dst s)))
      if usesCs E s.tm o then .all fun cs => go (cs k) else go 0

theorem RSim.mono {K : Ctx} {nt base : Nat} {L L' : Nat → Prop} {ρ : Nat → Addr} {A : Nat → Prop} {s : S} {a : Act} {w : World} (h : RSim K nt base L ρ A s a w) (hL : ∀ j, L j → L' j) : RSim K nt base L' ρ A s a w :=
  { h with bd := fun i hi => (h.bd i hi).imp id fun ⟨j, hj, hb⟩ => ⟨j, hL j hj, hb⟩ }

theorem seqT_ok {E : Env} (hE : EnvOk E) {K : Ctx} {ops : Array Oper} {nt base : Nat} {Q : Exit → Act → World → Prop} {Lf : Nat → Prop} : ∀ {ks : List Nat} {L : Nat → Prop} {ρ : Nat → Addr} {A : Nat → Prop} {s : S} {a : Act} {w : World},
    RSim K nt base L ρ A s a w → (∀ k ∈ ks, ¬ L k) → ks.Nodup → (∀ k, L k → Lf k) → (∀ k ∈ ks, Lf k) →
    holds (seqT E ops nt base ks s) (fun s' => ∀ ρ' A' a' w', RSim K nt base Lf ρ' A' s' a' w' → Q .normal a' w') → wpOps E.P ops Q ks a w
  | [], L, ρ, A, s, a, w, hs, _, _, hLf, _, h => h ρ A a w (hs.mono hLf)
  | k :: r, L, ρ, A, s, a, w, hs, hk, hnd, hLf, hks, h => by
    rw [wpOps_cons]
    simp only [seqT] at h
    cases ho : ops[k]? with
    | none => rw [ho] at h; exact h.elim
    | some o =>
      rw [ho] at h
      simp only [] at h
      have hnd' := List.nodup_cons.1 hnd
      refine stepT_ok hE ho hs (hk k (by simp)) fun c => ?_
      have key : holds ((stepT E ops nt (base + 32 * k) c o s).bind fun out => asms out.asm (needs out.need (seqT E ops nt base r (out.app o.dst s)))) (fun s' => ∀ ρ' A' a' w', RSim K nt base Lf ρ' A' s' a' w' → Q .normal a' w') := by
        split at h
        · exact h fun _ => c
        · rename_i hu
          rw [stepT_noC hE (by simpa using hu)]
          exact h
      rw [holds_bind] at key
      refine holds_mono (fun out hout => ?_) key
      rw [holds_asms, holds_needs] at hout
      refine fun ha => ⟨(hout ha).1, fun ρ' A' a' w' hs' => ?_⟩
      refine seqT_ok hE hs' ?_ hnd'.2 ?_ (fun j hj => hks j (by simp [hj])) (hout ha).2
      · intro j hj hor
        rcases hor with hL | rfl
        · exact hk j (by simp [hj]) hL
        · exact hnd'.1 hj
      · intro j hor
        rcases hor with hL | rfl
        · exact hLf j hL
        · exact hks j (by simp)

end Go.X
