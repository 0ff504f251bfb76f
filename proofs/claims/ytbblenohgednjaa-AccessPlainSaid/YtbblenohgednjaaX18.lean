import Derived.Test.YtbblenohgednjaaX17
/- A part of the walking machine: shown once for every program of the model; no condition of its own. -/
/- Functions. -/
namespace Go.X

def fuseV (v : V) : V := match v with | .agg g => .agg (fuse g) | v => v

def resOne (E : Env) (s : S) : ResultVar → Option (List Prop × V)
  | .tmp t => (asV (s.tm t)).map fun v => ([], v)
  | .cell a t => match asXA (s.tm a), E.P.underlying t with
    | some (ns, xa), some _ => match s.hp xa.id with
      | some b => match loadV E.P t xa b with
        | some (ms, v) => some (ns ++ ms, match v with | .agg g => .agg (fuse g) | v => v)
        | none => none
      | none => none
    | _, _ => none

def resAll (E : Env) (s : S) : List ResultVar → Option (List Prop × List V)
  | [] => some ([], [])
  | x :: r => match resOne E s x, resAll E s r with
    | some (ns, v), some (ms, l) => some (ns ++ ms, v :: l)
    | _, _ => none

def resSV : List V → SV
  | [v] => .ev v
  | l => .tup l

def argTm (args : List V) (t : Nat) : SV := match args[t]? with
  | some v => .ev v
  | none => .any

def fnT (E : Env) (fn : Func) (c : Code) (Lp : Blocks) (fl : Nat) (args : List V) (hp : Hp) (base : Nat) : T (S × SV) :=
  (codeT E fn.ntmps Lp fl c base ⟨argTm args, hp⟩).bind fun l => match l.ex with
    | .exit _ => .fail
    | _ => match resAll E l.s fn.results.toList with
      | some (ns, vs) => needs ns (.leaf (l.s, resSV vs))
      | none => .fail

section
variable {E : Env} {K : Ctx} {ρ : Nat → Addr} {A : Nat → Prop} {w : World}

def resRun (tmps : Array Value) : ResultVar → Sem Value
  | .tmp t => pure (tmps.getD t undef)
  | .cell a t => do loadVar t (← asAddr (tmps.getD a undef))

theorem resOne_spec {s : S} {tmps : Array Value} (hs : HSim ρ A s.hp w) (htm : ∀ t, R ρ A (s.tm t) (tmps.getD t undef)) {x : ResultVar} {ns : List Prop} {v : V} (h : resOne E s x = some (ns, v)) (hn : ∀ p ∈ ns, p) :
    (resRun tmps x).run E.P w = .ok (v.enc ρ) w ∧ v.inA A := by
  cases x with
  | tmp t =>
    simp only [resOne] at h
    cases hv : asV (s.tm t) with
    | none => simp [hv] at h
    | some v' =>
      simp [hv] at h
      obtain ⟨rfl, rfl⟩ := h
      have := htm t
      rw [asV_spec hv] at this
      exact ⟨by simp only [resRun, Sem.run_pure, this.2], this.1⟩
  | cell a t =>
    simp only [resOne] at h
    split at h
    · rename_i ms xa d ha ht
      split at h
      · rename_i b hb
        split at h
        · rename_i ks v' hv
          simp only [Option.some.injEq, Prod.mk.injEq] at h
          obtain ⟨rfl, rfl⟩ := h
          obtain ⟨e, hA⟩ := asXA_spec ha (htm a) (fun p hp => hn p (by simp [hp]))
          obtain ⟨h1, h2⟩ := loadV_spec (P := E.P) hs ht hb hv (fun p hp => hn p (by simp [hp]))
          have := fuseV_spec (ρ := ρ) h2
          refine ⟨?_, this.2⟩
          simp only [resRun]
          rw [e]
          simp only [asAddr, Sem.run_bind, Sem.run_pure, Result.andThen_ok]
          rw [h1]
          exact congrArg (fun z => Result.ok z w) this.1.symm
        · cases h
      · cases h
    · cases h

theorem resAll_spec {s : S} {tmps : Array Value} (hs : HSim ρ A s.hp w) (htm : ∀ t, R ρ A (s.tm t) (tmps.getD t undef)) : ∀ {l : List ResultVar} {ns : List Prop} {vs : List V}, resAll E s l = some (ns, vs) → (∀ p ∈ ns, p) →
    (l.mapM (resRun tmps)).run E.P w = .ok (vs.map (V.enc ρ)) w ∧ ∀ v ∈ vs, v.inA A
  | [], ns, vs, h, _ => by simp [resAll] at h; obtain ⟨_, rfl⟩ := h; exact ⟨by simp, by simp⟩
  | x :: r, ns, vs, h, hn => by
    simp only [resAll] at h
    split at h
    · rename_i ms v ks l h1 h2
      simp only [Option.some.injEq, Prod.mk.injEq] at h
      obtain ⟨rfl, rfl⟩ := h
      obtain ⟨a1, a2⟩ := resOne_spec hs htm h1 (fun p hp => hn p (by simp [hp]))
      obtain ⟨b1, b2⟩ := resAll_spec hs htm h2 (fun p hp => hn p (by simp [hp]))
      refine ⟨?_, by simpa using ⟨a2, b2⟩⟩
      rw [List.mapM_cons]
      simp only [Sem.run_bind]
      rw [a1]
      simp only [Result.andThen_ok]
      rw [b1]
      simp
    · cases h

theorem results_spec {fn : Func} {s : S} {tmps : Array Value} (hs : HSim ρ A s.hp w) (htm : ∀ t, R ρ A (s.tm t) (tmps.getD t undef)) {ns : List Prop} {vs : List V} (h : resAll E s fn.results.toList = some (ns, vs)) (hn : ∀ p ∈ ns, p) :
    ∃ v, (results fn tmps).run E.P w = .ok v w ∧ R ρ A (resSV vs) v := by
  obtain ⟨h1, h2⟩ := resAll_spec hs htm h hn
  have e : (results fn tmps).run E.P w = .ok (if h : (vs.map (V.enc ρ)).toArray.size = 1 then (vs.map (V.enc ρ)).toArray[0] else .tuple (vs.map (V.enc ρ)).toArray) w := by
    have e0 : results fn tmps = (do let vs ← fn.results.mapM (resRun tmps); pure (if h : vs.size = 1 then vs[0] else .tuple vs)) := rfl
    rw [e0, Array.mapM_eq_mapM_toList]
    simp only [Sem.run_bind, map_eq_pure_bind, h1, Result.andThen_ok, Sem.run_pure]
  refine ⟨_, e, ?_⟩
  cases vs with
  | nil => exact ⟨by simp, rfl⟩
  | cons v r =>
    cases r with
    | nil => exact ⟨h2 v (by simp), rfl⟩
    | cons u r => exact ⟨h2, by simp⟩

/-- A function's walk. -/
theorem fnT_ok (hE : EnvOk E) (hm : E.P.follows .mixedOrders = true) {g : FuncId} {fn : Func} {c : Code} (hf : E.P.funcs[g]? = some fn) (hb : fn.body = some c) {Lp : Blocks} {fl : Nat} {args : List V} {hp : Hp} {base : Nat} {D : Nat → Prop} (hs : HSim ρ A hp w)
    (hB : AllBlocks E ⟨D, w, ρ, A⟩ fn.ntmps Lp c)
    (hargs : ∀ v ∈ args, v.inA A) (hnt : args.length ≤ fn.ntmps) (hbase : ∀ i, A i → i < base) (hD : ∀ i b, hp i = some b → b.own = true → D (ρ i).block)
    {Q : Ending → World → Prop}
    (h : holds (fnT E fn c Lp fl args hp base) (fun x => ∀ ρ' A' v w', HSim ρ' A' x.1.hp w' → R ρ' A' x.2 v → Fr D w w' → (∀ i, A i → A' i ∧ ρ' i = ρ i) → (∀ i b, x.1.hp i = some b → b.own = true → D (ρ' i).block ∨ w.heap.size ≤ (ρ' i).block) → Q (.returned v) w')) :
    Calls E.P g (args.map (V.enc ρ)).toArray w Q := by
  refine calls_of_wp hf hb ?_
  have hinit : RSim ⟨D, w, ρ, A⟩ fn.ntmps base (fun _ => False) ρ A ⟨argTm args, hp⟩ { tmps := (args.map (V.enc ρ)).toArray ++ Array.replicate (fn.ntmps - (args.map (V.enc ρ)).toArray.size) undef, defers := [] } w := by
    refine ⟨hs, rfl, by simp; omega, fun t => ?_, fun i hi => .inl (hbase i hi), fun i b h1 h2 => .inl (hD i b h1 h2), Fr.refl _ _, fun i hi => ⟨hi, rfl⟩⟩
    simp only [argTm]
    cases ht : args[t]? with
    | none => trivial
    | some v =>
      have hlt := (List.getElem?_eq_some_iff.1 ht).1
      refine ⟨hargs v (List.mem_of_getElem? ht), ?_⟩
      have : args[t] = v := (List.getElem?_eq_some_iff.1 ht).2
      simp [Array.getElem?_append, hlt, this]
  unfold fnT at h
  rw [holds_bind] at h
  refine codeT_ok (K := ⟨D, w, ρ, A⟩) hE hm c hB _ base _ ρ A _ w hinit (holds_mono (fun l hl => ?_) h)
  obtain ⟨ex, s', b⟩ := l
  intro ρ' A' a' w' hs'
  have key : ∀ (hl : holds (match resAll E s' fn.results.toList with
      | some (ns, vs) => needs ns (.leaf (s', resSV vs))
      | none => .fail) (fun x => ∀ ρ' A' v w', HSim ρ' A' x.1.hp w' → R ρ' A' x.2 v → Fr D w w' → (∀ i, A i → A' i ∧ ρ' i = ρ i) → (∀ i b, x.1.hp i = some b → b.own = true → D (ρ' i).block ∨ w.heap.size ≤ (ρ' i).block) → Q (.returned v) w')),
      a'.defers = [] ∧ ∃ v, (results fn a'.tmps).run E.P w' = .ok v w' ∧ Q (.returned v) w' := by
    intro hl
    split at hl
    · rename_i ns vs hr
      rw [holds_needs] at hl
      obtain ⟨v, h1, h2⟩ := results_spec hs'.hs hs'.tm hr hl.1
      exact ⟨hs'.df, v, h1, hl.2 ρ' A' v w' hs'.hs h2 hs'.fr hs'.ex hs'.fp⟩
    · exact hl.elim
  cases ex with
  | normal => exact key hl
  | ret => exact key hl
  | exit id => exact hl.elim

def SVfree (x : SV) : Prop := ∀ ρ A v, R ρ A x v → ∀ ρ' A', R ρ' A' x v

/-- A function that touches no memory but its own. -/
def pureM (f : List V → Option (List Prop × SV)) (args : List V) (_ _ : Nat) : Rd := match f args with
  | some (ns, sv) => .ret ⟨[], ns, sv, [], []⟩
  | none => .fail

end
end Go.X
