import Derived.Test.YtbblenohgednjaaX24
/- A part of the walking machine: shown once for every program of the model; no condition of its own. -/
/- A call taken apart by one of its arguments. -/
namespace Go.X

def T.first {α : Type} : T α → T α
  | .ite b x _ => .need (b = true) x
  | t => t

theorem holds_first {α : Type} {t : T α} {Q : α → Prop} (h : holds t.first Q) : holds t Q := by
  cases t with
  | ite b x y =>
    simp only [T.first, holds] at h ⊢
    obtain ⟨rfl, h⟩ := h
    exact ⟨fun _ => h, fun hb => by cases hb⟩
  | _ => exact h

/-- By the numbers 0 .. n - 1; else what the first way says. -/
def splitU (M : List V → Nat → Hp → T (Res × List Nat)) (j : Nat) (p : BitVec 64) (args : List V) (fid : Nat) (hp : Hp) : Nat → T (Res × List Nat)
  | 0 => (M args fid hp).first
  | k + 1 => .ite (p == BitVec.ofNat 64 k) (M (args.set j (.sc (.u64 true (BitVec.ofNat 64 k)))) fid hp) (splitU M j p args fid hp k)

def splitUM (M : List V → Nat → Hp → T (Res × List Nat)) (j n : Nat) (args : List V) (fid : Nat) (hp : Hp) : T (Res × List Nat) :=
  match args[j]? with
  | some (.sc (.u64 false p)) => splitU M j p args fid hp n
  | _ => M args fid hp

/-- By these numbers, of which it is one. -/
def splitI (M : List V → Nat → Hp → T (Res × List Nat)) (j : Nat) (k : IntKind) (p : Int) (args : List V) (fid : Nat) (hp : Hp) : List Int → T (Res × List Nat)
  | [] => .fail
  | [x] => .need (p = x) (M (args.set j (.sc (.int k true x))) fid hp)
  | x :: r => .ite (decide (p = x)) (M (args.set j (.sc (.int k true x))) fid hp) (splitI M j k p args fid hp r)

def splitIM (M : List V → Nat → Hp → T (Res × List Nat)) (j : Nat) (l : List Int) (args : List V) (fid : Nat) (hp : Hp) : T (Res × List Nat) :=
  match args[j]? with
  | some (.sc (.int k false p)) => splitI M j k p args fid hp l
  | _ => M args fid hp

section
variable {M : List V → Nat → Hp → T (Res × List Nat)}

theorem map_set_same {ρ : Nat → Addr} {args : List V} {j : Nat} {x y : V} (h : args[j]? = some x) (e : y.enc ρ = x.enc ρ) : (args.set j y).map (V.enc ρ) = args.map (V.enc ρ) := by
  rw [List.map_set]
  apply List.ext_getElem?
  intro i
  by_cases hi : j = i
  · subst hi
    obtain ⟨hlt, hx⟩ := List.getElem?_eq_some_iff.1 h
    simp [e, hlt, hx]
  · simp [hi]

theorem set_inA {A : Nat → Prop} {args : List V} {j : Nat} {y : V} (h : ∀ v ∈ args, v.inA A) (hy : y.inA A) : ∀ v ∈ args.set j y, v.inA A := by
  intro v hv
  rcases List.mem_or_eq_of_mem_set hv with hv | rfl
  · exact h v hv
  · exact hy

/-- One of the ways is taken. -/
theorem splitU_way {j : Nat} {p : BitVec 64} {args : List V} {fid : Nat} {hp : Hp} {Q : Res × List Nat → Prop} : ∀ {n : Nat}, holds (splitU M j p args fid hp n) Q → holds (M args fid hp) Q ∨ ∃ k, p = BitVec.ofNat 64 k ∧ holds (M (args.set j (.sc (.u64 true (BitVec.ofNat 64 k)))) fid hp) Q
  | 0, h => .inl (holds_first h)
  | n + 1, h => by
    simp only [splitU, holds] at h
    cases hb : p == BitVec.ofNat 64 n with
    | true => exact .inr ⟨n, by simpa using hb, h.1 hb⟩
    | false => exact splitU_way (h.2 hb)

theorem splitI_way {j : Nat} {k : IntKind} {p : Int} {args : List V} {fid : Nat} {hp : Hp} {Q : Res × List Nat → Prop} : ∀ {l : List Int}, holds (splitI M j k p args fid hp l) Q → ∃ x, p = x ∧ holds (M (args.set j (.sc (.int k true x))) fid hp) Q
  | [], h => h.elim
  | [x], h => ⟨x, h.1, h.2⟩
  | x :: y :: r, h => by
    simp only [splitI, holds] at h
    by_cases hb : p = x
    · exact ⟨x, hb, h.1 (by simpa using hb)⟩
    · exact splitI_way (h.2 (by simpa using hb))

theorem splitUM_ok {P : Program} {g : FuncId} {j n : Nat} (h : BModelOk P g M) : BModelOk P g (splitUM M j n) := by
  rcases h with ⟨h1, h2⟩ | h2
  · refine .inl ⟨h1, fun args ρ A hp w fid Q hs hargs hf hP => ?_⟩
    unfold splitUM at hP
    split at hP
    · rename_i p hj
      rcases splitU_way hP with h | ⟨k, rfl, h⟩
      · exact h2 args ρ A hp w fid Q hs hargs hf h
      · rw [← map_set_same (y := .sc (.u64 true (BitVec.ofNat 64 k))) hj rfl]
        exact h2 _ ρ A hp w fid Q hs (set_inA hargs trivial) hf h
    · exact h2 args ρ A hp w fid Q hs hargs hf hP
  · refine .inr fun args ρ A hp w fid Q hs hargs hf hP => ?_
    unfold splitUM at hP
    split at hP
    · rename_i p hj
      rcases splitU_way hP with h | ⟨k, rfl, h⟩
      · exact h2 args ρ A hp w fid Q hs hargs hf h
      · rw [← map_set_same (y := .sc (.u64 true (BitVec.ofNat 64 k))) hj rfl]
        exact h2 _ ρ A hp w fid Q hs (set_inA hargs trivial) hf h
    · exact h2 args ρ A hp w fid Q hs hargs hf hP

theorem splitIM_ok {P : Program} {g : FuncId} {j : Nat} {l : List Int} (h : BModelOk P g M) : BModelOk P g (splitIM M j l) := by
  rcases h with ⟨h1, h2⟩ | h2
  · refine .inl ⟨h1, fun args ρ A hp w fid Q hs hargs hf hP => ?_⟩
    unfold splitIM at hP
    split at hP
    · rename_i k p hj
      obtain ⟨x, rfl, h⟩ := splitI_way hP
      rw [← map_set_same (y := .sc (.int k true p)) hj rfl]
      exact h2 _ ρ A hp w fid Q hs (set_inA hargs trivial) hf h
    · exact h2 args ρ A hp w fid Q hs hargs hf hP
  · refine .inr fun args ρ A hp w fid Q hs hargs hf hP => ?_
    unfold splitIM at hP
    split at hP
    · rename_i k p hj
      obtain ⟨x, rfl, h⟩ := splitI_way hP
      rw [← map_set_same (y := .sc (.int k true p)) hj rfl]
      exact h2 _ ρ A hp w fid Q hs (set_inA hargs trivial) hf h
    · exact h2 args ρ A hp w fid Q hs hargs hf hP
end

end Go.X
