import Derived.Test.YtbblenohgednjaaX27
/- A part of the walking machine: shown once for every program of the model; no condition of its own. -/
/- One way through a tree. -/
namespace Go.X

def follow : T (S × SV) → List Bool → Orc → Option (Nd × SV)
  | .leaf x, _, _ => some (.yes, x.2)
  | .ite b x y, c :: r, o => match (match c with | true => follow x r o | false => follow y r o) with
    | some (n, v) => some (Nd.need (b = c) n, v)
    | none => none
  | .ite _ _ _, [], _ => none
  | .need p t, r, o => match follow t r o with
    | some (n, v) => some (Nd.need p n, v)
    | none => none
  | .asm p t, r, o => match follow t r o with
    | some (n, v) => some (Nd.imp p n, v)
    | none => none
  | .all f, r, o => follow (f (o 0)) r o.tl
  | .fail, _, _ => none

/-- The given words, not those that the walk met: a need below what is taken holds where that is taken. -/
theorem follow_holds {Q : SV → Prop} : ∀ {t : T (S × SV)}, (∀ o, ∃ r n u, follow t r o = some (n, u) ∧ n.ok ∧ Q u) → holds t (fun x => Q x.2)
  | .leaf x, h => by
    obtain ⟨r, n, u, h1, h2, h3⟩ := h fun _ _ => 0
    simp [follow] at h1
    obtain ⟨rfl, rfl⟩ := h1
    exact h3
  | .ite b x y, h => by
    have key : ∀ o, ∃ r n u, (match b with | true => follow x r o | false => follow y r o) = some (n, u) ∧ n.ok ∧ Q u := by
      intro o
      obtain ⟨r, n, u, h1, h2, h3⟩ := h o
      cases r with
      | nil => simp [follow] at h1
      | cons c r =>
        simp only [follow] at h1
        split at h1
        · rename_i k v e
          simp at h1
          obtain ⟨rfl, rfl⟩ := h1
          rw [Nd.need_ok] at h2
          obtain ⟨rfl, h2⟩ := h2
          exact ⟨r, k, v, e, h2, h3⟩
        · cases h1
    constructor
    · rintro rfl
      exact follow_holds fun o => key o
    · rintro rfl
      exact follow_holds fun o => key o
  | .need p t, h => by
    have key : ∀ o, p ∧ ∃ r n u, follow t r o = some (n, u) ∧ n.ok ∧ Q u := by
      intro o
      obtain ⟨r, n, u, h1, h2, h3⟩ := h o
      simp only [follow] at h1
      split at h1
      · rename_i k v e
        simp at h1
        obtain ⟨rfl, rfl⟩ := h1
        rw [Nd.need_ok] at h2
        exact ⟨h2.1, r, k, v, e, h2.2, h3⟩
      · cases h1
    exact ⟨(key fun _ _ => 0).1, follow_holds fun o => (key o).2⟩
  | .asm p t, h => by
    intro hp
    refine follow_holds fun o => ?_
    obtain ⟨r, n, u, h1, h2, h3⟩ := h o
    simp only [follow] at h1
    split at h1
    · rename_i k v e
      simp at h1
      obtain ⟨rfl, rfl⟩ := h1
      rw [Nd.imp_ok] at h2
      exact ⟨r, k, v, e, h2 hp, h3⟩
    · cases h1
  | .all f, h => by
    intro cs
    refine follow_holds fun o => ?_
    obtain ⟨r, n, u, h1, h2, h3⟩ := h (Orc.cons cs o)
    exact ⟨r, n, u, h1, h2, h3⟩
  | .fail, h => by
    obtain ⟨r, n, u, h1, _⟩ := h fun _ _ => 0
    simp [follow] at h1

def isTrue (x : SV) : Prop := ∃ s b, x = .ev (.sc (.bool s b)) ∧ b = true

/-- A law of plain values, by one way. -/
theorem way_ok {E : Env} (hE : EnvOk E) (hm : E.P.follows .mixedOrders = true) {g : FuncId} {fn : Func} {c : Code} (hf : E.P.funcs[g]? = some fn) (hb : fn.body = some c) {fl : Nat} {pts : List (Nat × Nat × List SC)} {args : List V} (hargs : args.all V.noId = true) (hnt : args.length ≤ fn.ntmps)
    (h : ∀ o, ∃ r n u, follow (fnS E fn c noBlocks fl pts args (fun _ => none) 0) r o = some (n, u) ∧ n.ok ∧ isTrue u) (ρ : Nat → Addr) (w : World) :
    Calls E.P g (args.map (V.enc ρ)).toArray w fun e w' => e = .returned (.bool true) ∧ Fr (fun _ => False) w w' := by
  refine law_ok hE hm hf hb hargs hnt (ok := isTrue) (follow_holds h) (fun x ρ A v hx hr => ?_) ρ w
  obtain ⟨s, b, rfl, rfl⟩ := hx
  exact hr.2

end Go.X
