import Derived.Test.YtbblenohgednjaaX26
/- A part of the walking machine: shown once for every program of the model; no condition of its own. -/
/- A body taken apart between two of its statements, by what stands in a slot. -/
namespace Go.X

def SC.plain : SC → Bool
  | .str _ _ => false
  | v => v.noId
theorem SC.plain_noId {v : SC} (h : v.plain = true) : v.noId = true := by cases v <;> first | rfl | exact h
theorem SC.eq?_enc {x y : SC} {b : Bool} (h : x.eq? y = some b) (hb : b = true) (hp : y.plain = true) (ρ : Nat → Addr) : y.enc ρ = x.enc ρ := by
  subst hb
  cases x <;> cases y <;> simp only [SC.eq?] at h <;> try (cases h; done)
  case str.str => cases hp
  case int.int =>
    split at h
    · rename_i e
      subst e
      simp only [Option.some.injEq, decide_eq_true_eq] at h
      subst h; rfl
    · cases h
  all_goals
    simp only [Option.some.injEq, beq_iff_eq] at h
    subst h; rfl

def splitGo (s : S) (t : Nat) (x : SC) : List SC → T S
  | [] => .fail
  | [c] => match x.eq? c with
    | some b => if c.plain then .need (b = true) (.leaf ⟨upd s.tm t (.ev (.sc c)), s.hp⟩) else .fail
    | none => .fail
  | c :: r => match x.eq? c with
    | some b => if c.plain then .ite b (.leaf ⟨upd s.tm t (.ev (.sc c)), s.hp⟩) (splitGo s t x r) else .fail
    | none => .fail

def splitTm (t : Nat) (l : List SC) (s : S) : T S := match s.tm t with
  | .ev (.sc x) => splitGo s t x l
  | _ => .leaf s

theorem RSim.same {K : Ctx} {nt base : Nat} {L : Nat → Prop} {ρ : Nat → Addr} {A : Nat → Prop} {s : S} {a : Act} {w : World} (h : RSim K nt base L ρ A s a w) {t : Nat} {x c : SC} (hx : s.tm t = .ev (.sc x)) (hc : c.noId = true) (he : c.enc ρ = x.enc ρ) :
    RSim K nt base L ρ A ⟨upd s.tm t (.ev (.sc c)), s.hp⟩ a w := by
  refine { h with tm := fun j => ?_, hs := h.hs, fp := h.fp }
  by_cases e : j = t
  · subst e
    have := h.tm j
    rw [hx] at this
    simp only [upd, if_true]
    exact ⟨SC.noId_inA hc A, by rw [this.2]; exact he.symm⟩
  · simp only [upd, if_neg e]
    exact h.tm j

theorem splitGo_ok {K : Ctx} {nt base : Nat} {L : Nat → Prop} {ρ : Nat → Addr} {A : Nat → Prop} {s : S} {a : Act} {w : World} (h : RSim K nt base L ρ A s a w) {t : Nat} {x : SC} (hx : s.tm t = .ev (.sc x)) {Q : S → Prop} :
    ∀ {l : List SC}, holds (splitGo s t x l) Q → ∃ s', RSim K nt base L ρ A s' a w ∧ Q s'
  | [], hh => hh.elim
  | [c], hh => by
    simp only [splitGo] at hh
    split at hh
    · rename_i b hb
      split at hh
      · rename_i hc
        exact ⟨_, h.same hx (SC.plain_noId hc) (SC.eq?_enc hb hh.1 hc ρ), hh.2⟩
      · exact hh.elim
    · exact hh.elim
  | c :: d :: r, hh => by
    simp only [splitGo] at hh
    split at hh
    · rename_i b hb
      split at hh
      · rename_i hc
        cases hbv : b with
        | true => exact ⟨_, h.same hx (SC.plain_noId hc) (SC.eq?_enc hb hbv hc ρ), hh.1 hbv⟩
        | false => exact splitGo_ok h hx (hh.2 hbv)
      · exact hh.elim
    · exact hh.elim

theorem splitTm_ok {K : Ctx} {nt base : Nat} {L : Nat → Prop} {ρ : Nat → Addr} {A : Nat → Prop} {s : S} {a : Act} {w : World} (h : RSim K nt base L ρ A s a w) {t : Nat} {l : List SC} {Q : S → Prop} (hh : holds (splitTm t l s) Q) :
    ∃ s', RSim K nt base L ρ A s' a w ∧ Q s' := by
  unfold splitTm at hh
  split at hh
  · rename_i x hx
    exact splitGo_ok h hx hh
  · exact ⟨s, h, hh⟩

def ptAt : List (Nat × Nat × List SC) → Nat → Option (Nat × List SC)
  | [], _ => none
  | (k, x) :: r, n => if Nat.beq k n then some x else ptAt r n

def codeS (E : Env) (nt : Nat) (Lp : Blocks) (fl : Nat) (pts : List (Nat × Nat × List SC)) : Code → Nat → Nat → S → T Leaf
  | .seq x y, n, base, s => (codeT E nt Lp fl x base s).bind fun l => match l.ex with
    | .normal => match ptAt pts n with
      | some (t, vs) => (splitTm t vs l.s).bind fun s' => codeS E nt Lp fl pts y (n + 1) l.b s'
      | none => codeS E nt Lp fl pts y (n + 1) l.b l.s
    | _ => .leaf l
  | c, _, base, s => codeT E nt Lp fl c base s

theorem codeS_ok {E : Env} {K : Ctx} {nt : Nat} {Lp : Blocks} {fl : Nat} {pts : List (Nat × Nat × List SC)} (hE : EnvOk E) (hm : E.P.follows .mixedOrders = true) : ∀ (c : Code), AllBlocks E K nt Lp c → ∀ (n : Nat) (Q : Exit → Act → World → Prop) (base : Nat) (s : S) (ρ : Nat → Addr) (A : Nat → Prop) (a : Act) (w : World),
    RSim K nt base (fun _ => False) ρ A s a w → holds (codeS E nt Lp fl pts c n base s) (LeafPost K nt Q) → c.wp E.P Q a w
  | .seq x y, hB, n, Q, base, s, ρ, A, a, w, hs, h => by
    simp only [codeS, holds_bind] at h
    refine wp_seq (codeT_ok hE hm x hB.1 _ base s ρ A a w hs (holds_mono (fun l hl => ?_) h))
    obtain ⟨ex, s', b⟩ := l
    intro ρ' A' a' w' hs'
    cases ex with
    | normal =>
      simp only [] at hl
      split at hl
      · rw [holds_bind] at hl
        obtain ⟨s2, hs2, hl⟩ := splitTm_ok hs' hl
        exact codeS_ok hE hm y hB.2 _ Q b s2 ρ' A' a' w' hs2 hl
      · exact codeS_ok hE hm y hB.2 _ Q b s' ρ' A' a' w' hs' hl
    | exit id => exact hl ρ' A' a' w' hs'
    | ret => exact hl ρ' A' a' w' hs'
  | .skip, hB, n, Q, base, s, ρ, A, a, w, hs, h => codeT_ok hE hm _ hB Q base s ρ A a w hs h
  | .label _, hB, n, Q, base, s, ρ, A, a, w, hs, h => codeT_ok hE hm _ hB Q base s ρ A a w hs h
  | .region _ _ _, hB, n, Q, base, s, ρ, A, a, w, hs, h => codeT_ok hE hm _ hB Q base s ρ A a w hs h
  | .cond _ _ _, hB, n, Q, base, s, ρ, A, a, w, hs, h => codeT_ok hE hm _ hB Q base s ρ A a w hs h
  | .block _ _, hB, n, Q, base, s, ρ, A, a, w, hs, h => codeT_ok hE hm _ hB Q base s ρ A a w hs h
  | .loop _, hB, n, Q, base, s, ρ, A, a, w, hs, h => codeT_ok hE hm _ hB Q base s ρ A a w hs h
  | .exit _, hB, n, Q, base, s, ρ, A, a, w, hs, h => codeT_ok hE hm _ hB Q base s ρ A a w hs h
  | .ret, hB, n, Q, base, s, ρ, A, a, w, hs, h => codeT_ok hE hm _ hB Q base s ρ A a w hs h
  | .rangeFunc _ _ _ _, hB, n, Q, base, s, ρ, A, a, w, hs, h => codeT_ok hE hm _ hB Q base s ρ A a w hs h
  | .scope _, hB, n, Q, base, s, ρ, A, a, w, hs, h => codeT_ok hE hm _ hB Q base s ρ A a w hs h
  | .goto _, hB, n, Q, base, s, ρ, A, a, w, hs, h => codeT_ok hE hm _ hB Q base s ρ A a w hs h
  | .refuse _, hB, n, Q, base, s, ρ, A, a, w, hs, h => codeT_ok hE hm _ hB Q base s ρ A a w hs h

def fnS (E : Env) (fn : Func) (c : Code) (Lp : Blocks) (fl : Nat) (pts : List (Nat × Nat × List SC)) (args : List V) (hp : Hp) (base : Nat) : T (S × SV) :=
  (codeS E fn.ntmps Lp fl pts c 0 base ⟨argTm args, hp⟩).bind fun l => match l.ex with
    | .exit _ => .fail
    | _ => match resAll E l.s fn.results.toList with
      | some (ns, vs) => needs ns (.leaf (l.s, resSV vs))
      | none => .fail

section
variable {E : Env} {K : Ctx} {ρ : Nat → Addr} {A : Nat → Prop} {w : World}
theorem fnS_ok (hE : EnvOk E) (hm : E.P.follows .mixedOrders = true) {g : FuncId} {fn : Func} {c : Code} (hf : E.P.funcs[g]? = some fn) (hb : fn.body = some c) {Lp : Blocks} {fl : Nat} {pts : List (Nat × Nat × List SC)} {args : List V} {hp : Hp} {base : Nat} {D : Nat → Prop} (hs : HSim ρ A hp w)
    (hB : AllBlocks E ⟨D, w, ρ, A⟩ fn.ntmps Lp c)
    (hargs : ∀ v ∈ args, v.inA A) (hnt : args.length ≤ fn.ntmps) (hbase : ∀ i, A i → i < base) (hD : ∀ i b, hp i = some b → b.own = true → D (ρ i).block)
    {Q : Ending → World → Prop}
    (h : holds (fnS E fn c Lp fl pts args hp base) (fun x => ∀ ρ' A' v w', HSim ρ' A' x.1.hp w' → R ρ' A' x.2 v → Fr D w w' → (∀ i, A i → A' i ∧ ρ' i = ρ i) → (∀ i b, x.1.hp i = some b → b.own = true → D (ρ' i).block ∨ w.heap.size ≤ (ρ' i).block) → Q (.returned v) w')) :
    Calls E.P g (args.map (V.enc ρ)).toArray w Q := by
  refine calls_of_wp hf hb ?_
  have hinit : RSim ⟨D, w, ρ, A⟩ fn.ntmps base (fun _ => False) ρ A ⟨argTm args, hp⟩ { tmps := (args.map (V.enc ρ)).toArray ++ Array.replicate (fn.ntmps - (args.map (V.enc ρ)).toArray.size) undef, defers := [] } w := by
    refine ⟨hs, rfl, by simp; omega, fun t => ?_, fun i hi => .inl (hbase i hi), fun i b h1 h2 => .inl (hD i b h1 h2), Fr.refl _ _, fun i hi => ⟨hi, rfl⟩⟩
    simp only [argTm]
    cases ht : args[t]? with
    | none => trivial
    | some v =>
      have hlt := (List.getElem?_eq_some_iff.1 ht).1
      refine ⟨hargs v (List.mem_of_getElem? ht), ?_⟩
      have : args[t] = v := (List.getElem?_eq_some_iff.1 ht).2
      simp [Array.getElem?_append, hlt, this]
  unfold fnS at h
  rw [holds_bind] at h
  refine codeS_ok (K := ⟨D, w, ρ, A⟩) hE hm c hB _ _ base _ ρ A _ w hinit (holds_mono (fun l hl => ?_) h)
  obtain ⟨ex, s', b⟩ := l
  intro ρ' A' a' w' hs'
  have key : ∀ (hl : holds (match resAll E s' fn.results.toList with
      | some (ns, vs) => needs ns (.leaf (s', resSV vs))
      | none => .fail) (fun x => ∀ ρ' A' v w', HSim ρ' A' x.1.hp w' → R ρ' A' x.2 v → Fr D w w' → (∀ i, A i → A' i ∧ ρ' i = ρ i) → (∀ i b, x.1.hp i = some b → b.own = true → D (ρ' i).block ∨ w.heap.size ≤ (ρ' i).block) → Q (.returned v) w')),
      a'.defers = [] ∧ ∃ v, (results fn a'.tmps).run E.P w' = .ok v w' ∧ Q (.returned v) w' := by
    intro hl
    split at hl
    · rename_i ns vs hr
      rw [holds_needs] at hl
      obtain ⟨v, h1, h2⟩ := results_spec hs'.hs hs'.tm hr hl.1
      exact ⟨hs'.df, v, h1, hl.2 ρ' A' v w' hs'.hs h2 hs'.fr hs'.ex hs'.fp⟩
    · exact hl.elim
  cases ex with
  | normal => exact key hl
  | ret => exact key hl
  | exit id => exact hl.elim
end

/-- A law of plain values: what it answers. -/
theorem law_ok {E : Env} (hE : EnvOk E) (hm : E.P.follows .mixedOrders = true) {g : FuncId} {fn : Func} {c : Code} (hf : E.P.funcs[g]? = some fn) (hb : fn.body = some c) {fl : Nat} {pts : List (Nat × Nat × List SC)} {args : List V} (hargs : args.all V.noId = true) (hnt : args.length ≤ fn.ntmps)
    {ok : SV → Prop} (h : holds (fnS E fn c noBlocks fl pts args (fun _ => none) 0) (fun x => ok x.2)) (hok : ∀ x ρ A v, ok x → R ρ A x v → v = .bool true) (ρ : Nat → Addr) (w : World) :
    Calls E.P g (args.map (V.enc ρ)).toArray w fun e w' => e = .returned (.bool true) ∧ Fr (fun _ => False) w w' := by
  have hs0 : HSim ρ (fun _ => False) (fun _ => none) w := ⟨fun _ _ h => (by cases h), fun _ _ h => (by cases h), fun _ _ _ _ h => (by cases h), fun _ _ h => (by cases h), fun _ _ h => (by cases h)⟩
  refine fnS_ok (D := fun _ => False) hE hm hf hb hs0 (allBlocks_no _) (fun v hv => V.noId_inA (List.all_eq_true.1 hargs v hv) _) hnt (fun i hi => hi.elim) (fun i b h => by cases h) (holds_mono (fun x hx ρ' A' v w' _ hv hfr _ _ => ?_) h)
  exact ⟨by rw [hok _ _ _ _ hx hv], hfr⟩

end Go.X
