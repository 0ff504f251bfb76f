import Derived.Test.YtbblenohgednjaaX5
/- A part of the walking machine: shown once for every program of the model; no condition of its own. -/
namespace Go.X

def SC.lf : SC → Option Lf
  | .u64 _ _ | .u32 _ _ | .u8 _ _ | .int _ _ _ => some .int
  | .bool _ _ => some .bool
  | .str _ _ => some .str
  | _ => none

def Seg.lf : Seg → Option (List Lf)
  | .one v => v.lf.map fun l => [l]
  | .st _ => some (List.replicate 33 .int ++ (.int :: .bool :: List.replicate 30 .int))
  | .u64s _ n _ | .u8s _ n _ | .ints _ _ n _ => some (List.replicate n .int)
  | .bools _ n _ => some (List.replicate n .bool)
  | .recs _ _ _ => none

def segsLf : List Seg → Option (List Lf)
  | [] => some []
  | g :: r => match g.lf, segsLf r with
    | some a, some b => some (a ++ b)
    | _, _ => none

def allN (n : Nat) (f : Nat → Bool) : Bool := (List.range n).all f

/-- Are two states alike? -/
def stEq (s t : St) : Bool :=
  allN 32 (fun i => rowGet 0 s.X i == rowGet 0 t.X i) && (s.pc == t.pc && (decide (s.level = t.level) && ((s.v == t.v) && (allN 29 (fun i => rowGet 0 s.C i == rowGet 0 t.C i) && (s.done == t.done)))))

theorem allN_iff {n : Nat} {f : Nat → Bool} : allN n f = true ↔ ∀ i, i < n → f i = true := by simp [allN]

theorem stEq_iff (s t : St) : stEq s t = true ↔ s = t := by
  simp only [stEq, Bool.and_eq_true, allN_iff, beq_iff_eq, decide_eq_true_eq]
  constructor
  · rintro ⟨h1, h2, h3, h4, h5, h6⟩
    have e1 : s.X = t.X := by
      funext i
      have := h1 i.val i.isLt
      simpa [rowGet] using this
    have e2 : s.C = t.C := by
      funext i
      have := h5 i.val i.isLt
      simpa [rowGet] using this
    cases s; cases t; simp_all
  · rintro rfl; simp

def SC.eq? (x y : SC) : Option Bool :=
  match x, y with
  | .u64 _ a, .u64 _ b => some (a == b)
  | .u32 _ a, .u32 _ b => some (a == b)
  | .u8 _ a, .u8 _ b => some (a == b)
  | .int k _ a, .int k' _ b => if k = k' then some (decide (a = b)) else none
  | .bool _ a, .bool _ b => some (a == b)
  | .str _ a, .str _ b => some (a == b)
  | _, _ => none

def Seg.eq? (x y : Seg) : Option Bool :=
  match x, y with
  | .one a, .one b => a.eq? b
  | .st a, .st b => some (stEq a b)
  | .u64s _ n f, .u64s _ m g => if n = m then some (allN n fun i => f i == g i) else none
  | .u8s _ n f, .u8s _ m g => if n = m then some (allN n fun i => f i == g i) else none
  | .ints k _ n f, .ints k' _ m g => if n = m ∧ k = k' then some (allN n fun i => decide (f i = g i)) else none
  | .bools _ n f, .bools _ m g => if n = m then some (allN n fun i => f i == g i) else none
  | _, _ => none

def segsEq : List Seg → List Seg → Option Bool
  | [], [] => some true
  | [x], [y] => x.eq? y
  | x :: r, y :: s => match x.eq? y, segsEq r s with
    | some a, some b => some (a && b)
    | _, _ => none
  | _, _ => none

theorem beq_nat_bv {w : Nat} (a b : BitVec w) : ((a.toNat : Int) == (b.toNat : Int)) = (a == b) := by
  rw [Bool.eq_iff_iff]; simp only [beq_iff_eq]; exact ⟨fun h => BitVec.eq_of_toNat_eq (by omega), fun h => by rw [h]⟩

theorem SC.eq_spec {ρ : Nat → Addr} {x y : SC} {b : Bool} {l : Lf} (h : x.eq? y = some b) (hl : x.lf = some l) : cellEq l (x.enc ρ) (y.enc ρ) = some b := by
  unfold SC.eq? at h
  split at h <;> first | (cases h; done) | skip
  all_goals simp [SC.lf] at hl; subst hl
  case h_4 =>
    split at h
    · rename_i e; subst e; simp at h; subst h; simp [SC.enc, cellEq, beq_int]
    · cases h
  all_goals simp at h; subst h; simp [SC.enc, cellEq, beq_nat_bv]

theorem rowEq_map {l : List Nat} {lf : Lf} {f g : Nat → Value} {e : Nat → Bool} (h : ∀ i, cellEq lf (f i) (g i) = some (e i)) : rowEq (List.replicate l.length lf) (l.map f) (l.map g) = some (l.all e) := by
  induction l with
  | nil => rfl
  | cons x r ih =>
    simp only [List.length_cons, List.replicate_succ, List.map_cons, rowEq, h x, ih, List.all_cons]

theorem rowEq_range {n : Nat} {lf : Lf} {f g : Nat → Value} {e : Nat → Bool} (h : ∀ i, cellEq lf (f i) (g i) = some (e i)) : rowEq (List.replicate n lf) ((List.range n).map f) ((List.range n).map g) = some (allN n e) := by
  have := rowEq_map (l := List.range n) h
  simpa [allN] using this

theorem rowEq_app {l m : List Lf} {x y x' y' : List Value} {a b : Bool} (h : rowEq l x y = some a) (h' : rowEq m x' y' = some b) : rowEq (l ++ m) (x ++ x') (y ++ y') = some (a && b) := by
  induction l generalizing x y a with
  | nil =>
    cases x <;> cases y <;> simp [rowEq] at h
    subst h; simpa using h'
  | cons lf l ih =>
    cases x with
    | nil => simp [rowEq] at h
    | cons u x =>
      cases y with
      | nil => simp [rowEq] at h
      | cons v y =>
        simp only [rowEq] at h
        cases hc : cellEq lf u v with
        | none => simp [hc] at h
        | some c =>
          cases hr : rowEq l x y with
          | none => simp [hc, hr] at h
          | some d =>
            simp [hc, hr] at h
            subst h
            simp [rowEq, hc, ih hr, Bool.and_assoc]

theorem Seg.eq_spec {ρ : Nat → Addr} {x y : Seg} {b : Bool} {l : List Lf} (h : x.eq? y = some b) (hl : x.lf = some l) : rowEq l (x.cells ρ) (y.cells ρ) = some b := by
  unfold Seg.eq? at h
  split at h <;> first | (cases h; done) | skip
  · rename_i a c
    simp only [Seg.lf] at hl
    obtain ⟨lf, h1, rfl⟩ := Option.map_eq_some_iff.1 hl
    simp [Seg.cells, rowEq, SC.eq_spec (ρ := ρ) h h1]
  · rename_i s t
    simp only [Seg.lf, Option.some.injEq] at hl
    subst hl
    simp only [Option.some.injEq] at h
    subst h
    have c1 : ∀ a b : W64, cellEq .int (.int .u64 a.toNat) (.int .u64 b.toNat) = some (a == b) := fun a b => by simp [cellEq, beq_nat_bv]
    have r1 := rowEq_range (n := 32) (f := fun i => Value.int .u64 (rowGet 0 s.X i).toNat) (g := fun i => Value.int .u64 (rowGet 0 t.X i).toNat) (fun i => c1 _ _)
    have r2 := rowEq_range (n := 29) (f := fun i => Value.int .u64 (rowGet 0 s.C i).toNat) (g := fun i => Value.int .u64 (rowGet 0 t.C i).toNat) (fun i => c1 _ _)
    have r3 : rowEq [.int] [.int .u64 s.done.toNat] [.int .u64 t.done.toNat] = some (s.done == t.done) := by simp [rowEq, c1]
    have r4 : rowEq [.int, .int, .bool] [.int .u64 s.pc.toNat, .int .i64 s.level, .bool s.v] [.int .u64 t.pc.toNat, .int .i64 t.level, .bool t.v] = some (s.pc == t.pc && (decide (s.level = t.level) && (s.v == t.v))) := by
      simp only [rowEq, c1]
      simp [cellEq, beq_int]
    have := rowEq_app r1 (rowEq_app r4 (rowEq_app r2 r3))
    simp only [Seg.cells, stCells, List.append_assoc]
    simp only [stEq]
    have el : List.replicate 33 Lf.int ++ (Lf.int :: Lf.bool :: List.replicate 30 Lf.int) = List.replicate 32 Lf.int ++ ([Lf.int, Lf.int, Lf.bool] ++ (List.replicate 29 Lf.int ++ [Lf.int])) := by decide
    rw [el, this]
    simp only [Bool.and_assoc]
  · split at h
    · rename_i e; subst e
      simp at h; subst h
      simp [Seg.lf] at hl; subst hl
      exact rowEq_range fun i => by simp [cellEq, beq_nat_bv]
    · cases h
  · split at h
    · rename_i e; subst e
      simp at h; subst h
      simp [Seg.lf] at hl; subst hl
      exact rowEq_range fun i => by simp [cellEq, beq_nat_bv]
    · cases h
  · split at h
    · rename_i e; obtain ⟨rfl, rfl⟩ := e
      simp at h; subst h
      simp [Seg.lf] at hl; subst hl
      exact rowEq_range fun i => by simp [cellEq, beq_int]
    · cases h
  · split at h
    · rename_i e; subst e
      simp at h; subst h
      simp [Seg.lf] at hl; subst hl
      exact rowEq_range fun i => by simp [cellEq]
    · cases h

theorem segsEq_spec {ρ : Nat → Addr} : ∀ {x y : List Seg} {b : Bool} {l : List Lf}, segsEq x y = some b → segsLf x = some l → rowEq l (cellsOf ρ x) (cellsOf ρ y) = some b
  | [], [], b, l, h, hl => by simp [segsEq] at h; simp [segsLf] at hl; subst h; subst hl; rfl
  | [x], [y], b, l, h, hl => by
    simp only [segsEq] at h
    simp only [segsLf] at hl
    cases hx : x.lf with
    | none => simp [hx] at hl
    | some a =>
      simp [hx] at hl; subst hl
      simp only [cellsOf, List.append_nil]
      exact Seg.eq_spec h hx
  | x :: x' :: r, y :: s, b, l, h, hl => by
    simp only [segsEq] at h
    rw [segsLf] at hl
    cases he : x.eq? y with
    | none => simp [he] at h
    | some a =>
      cases hr : segsEq (x' :: r) s with
      | none => simp [he, hr] at h
      | some c =>
        simp [he, hr] at h; subst h
        cases hx : x.lf with
        | none => simp [hx] at hl
        | some la =>
          cases hlr : segsLf (x' :: r) with
          | none => simp [hx, hlr] at hl
          | some lb =>
            simp [hx, hlr] at hl; subst hl
            exact rowEq_app (Seg.eq_spec he hx) (segsEq_spec hr hlr)
  | [x], y :: y' :: s, b, l, h, hl => by
    simp [segsEq] at h
  | [], y :: s, b, l, h, hl => by simp [segsEq] at h
  | x :: r, [], b, l, h, hl => by simp [segsEq] at h

theorem segsLf_length : ∀ {x : List Seg} {l : List Lf}, segsLf x = some l → l.length = segsLen x
  | [], l, h => by simp [segsLf] at h; subst h; rfl
  | x :: r, l, h => by
    rw [segsLf] at h
    cases hx : x.lf with
    | none => simp [hx] at h
    | some a =>
      cases hr : segsLf r with
      | none => simp [hx, hr] at h
      | some c =>
        simp [hx, hr] at h; subst h
        have e : a.length = x.len := by
          cases x <;> simp [Seg.lf] at hx <;> first | (subst hx; simp [Seg.len]; done) | (obtain ⟨_, _, rfl⟩ := hx; rfl)
        simp [segsLen, e, segsLf_length hr]

/-- '==' of two structs. -/
def aggEq (P : Program) (t : TypeId) (x y : List Seg) : Option Bool :=
  if P.eqGuardType P.depth t then none else
  match leaves P 8 t, segsLf x with
  | some l, some l' => if l = l' ∧ segsLen x = segsLen y then segsEq x y else none
  | _, _ => none

theorem aggEq_spec {P : Program} {w : World} {ρ : Nat → Addr} {t : TypeId} {x y : List Seg} {b : Bool} (ht : isAggT P t = true) (h : aggEq P t x y = some b) (o1 o2 : Operand) (op : BinOp) :
    (eqGuard op t o1 o2 (.agg (cellsOf ρ x).toArray) (.agg (cellsOf ρ y).toArray)).run P w = .ok () w ∧ (Op.equal t (.agg (cellsOf ρ x).toArray) (.agg (cellsOf ρ y).toArray)).run P w = .ok b w := by
  unfold aggEq at h
  split at h
  · cases h
  · rename_i hg
    split at h
    · rename_i l l' h1 h2
      split at h
      · rename_i e
        obtain ⟨rfl, e2⟩ := e
        refine ⟨run_eqGuard_agg w op t o1 o2 _ _ (by simpa using hg), ?_⟩
        have := equalIn_leaves (P := P) (w := w) 8 10000 t l (cellsOf ρ x) (cellsOf ρ y) b (by omega) h1 (by rw [cellsOf_length, segsLf_length h2]) (by rw [cellsOf_length, segsLf_length h2, e2]) (segsEq_spec h h2)
        simpa [Op.equal, Op.maxDepth, ofCells, ht] using this
      · cases h
    · cases h
end Go.X
