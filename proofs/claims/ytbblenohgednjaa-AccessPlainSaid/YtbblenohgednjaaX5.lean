import Derived.Test.YtbblenohgednjaaX4
import Derived.Laws.StructEq
/- A part of the walking machine: shown once for every program of the model; no condition of its own. -/
/- '==' of structs: cell by cell. -/
namespace Go.X

inductive Lf where
  | int | bool | str
  deriving DecidableEq

def allSome {α : Type} : List (Option (List α)) → Option (List α)
  | [] => some []
  | some l :: r => (allSome r).map (l ++ ·)
  | none :: _ => none

def fieldLeavesW (P : Program) (g : TypeId → Option (List Lf)) : List Field → Nat → Option (List Lf)
  | [], _ => some []
  | f :: r, off =>
    if f.name ≠ "_" ∧ f.offset = off then
      match g f.type with
      | some l => if l.length = P.cellsOf f.type then (fieldLeavesW P g r (off + l.length)).map (l ++ ·) else none
      | none => none
    else none

/-- The leaves of a type, cell by cell; none: it holds what this file does not compare. -/
def leaves (P : Program) : Nat → TypeId → Option (List Lf)
  | 0, _ => none
  | d + 1, t =>
    match P.underlying t with
    | some (.int _) => some [.int]
    | some .bool => some [.bool]
    | some .string => some [.str]
    | some (.struct fs) =>
      if P.stoodInHeld t = true then none else fieldLeavesW P (leaves P d) fs.toList 0
    | some (.array n e) => match leaves P d e with
      | some l => if l.length = P.cellsOf e then some (List.replicate n l).flatten else none
      | none => none
    | _ => none

def cellEq : Lf → Value → Value → Option Bool
  | .int, .int k a, .int k' b => if k = k' then some (a == b) else none
  | .bool, .bool a, .bool b => some (a == b)
  | .str, .string a, .string b => some (a == b)
  | _, _, _ => none

def rowEq : List Lf → List Value → List Value → Option Bool
  | [], [], [] => some true
  | l :: ls, x :: xs, y :: ys => match cellEq l x y, rowEq ls xs ys with
    | some a, some b => some (a && b)
    | _, _ => none
  | _, _, _ => none

theorem rowEq_append : ∀ {l m : List Lf} {x y x' y' : List Value}, x.length = l.length → y.length = l.length → ∀ {b : Bool}, rowEq (l ++ m) (x ++ x') (y ++ y') = some b →
    ∃ b1 b2, rowEq l x y = some b1 ∧ rowEq m x' y' = some b2 ∧ b = (b1 && b2)
  | [], m, x, y, x', y', hx, hy, b, h => by
    cases x <;> simp at hx
    cases y <;> simp at hy
    exact ⟨true, b, rfl, by simpa using h, by simp⟩
  | l :: ls, m, x, y, x', y', hx, hy, b, h => by
    cases x with
    | nil => simp at hx
    | cons u xs =>
      cases y with
      | nil => simp at hy
      | cons v ys =>
        simp only [List.cons_append, rowEq] at h ⊢
        cases hc : cellEq l u v with
        | none => simp [hc] at h
        | some a =>
          cases hr : rowEq (ls ++ m) (xs ++ x') (ys ++ y') with
          | none => simp [hc, hr] at h
          | some b' =>
            simp [hc, hr] at h
            subst h
            obtain ⟨b1, b2, h1, h2, h3⟩ := rowEq_append (by simpa using hx) (by simpa using hy) hr
            exact ⟨a && b1, b2, by simp [h1], h2, by rw [h3, Bool.and_assoc]⟩

section
variable {P : Program} {w : World}

/-- A value of cells, as '==' takes it. -/
def ofCells (P : Program) (t : TypeId) (xs : List Value) : Value := if isAggT P t then .agg xs.toArray else xs.headD (.tuple #[])

theorem isAggT_struct {t : TypeId} {fs : Array Field} (h : P.underlying t = some (.struct fs)) : isAggT P t = true := by simp [isAggT, h]
theorem isAggT_array {t : TypeId} {n : Nat} {e : TypeId} (h : P.underlying t = some (.array n e)) : isAggT P t = true := by simp [isAggT, h]

theorem run_part {t : TypeId} {d : TypeDesc} (ht : P.underlying t = some d) (pre xs post : List Value) (hl : xs.length = P.cellsOf t) (h1 : isAggT P t = false → P.cellsOf t = 1) :
    (part t (pre ++ (xs ++ post)).toArray pre.length).run P w = .ok (ofCells P t xs) w := by
  unfold part ofCells
  simp only [Sem.run_bind, run_isAgg ht, Result.andThen_ok]
  cases ha : isAggT P t with
  | true =>
    simp only [if_true, Sem.run_bind, run_size ht, Result.andThen_ok, Sem.run_pure]
    congr 2
    rw [← hl]
    apply Array.ext'
    simp
  | false =>
    have := h1 ha
    rw [this] at hl
    match xs, hl with
    | [x], _ => simp

theorem leaves_scalar {d : Nat} {t : TypeId} {l : List Lf} (h : leaves P d t = some l) (ha : isAggT P t = false) : l.length = 1 := by
  cases d with
  | zero => simp [leaves] at h
  | succ d =>
    simp only [leaves] at h
    split at h <;> first | (cases h; done) | skip
    all_goals first | (simp at h; subst h; rfl) | skip
    · rename_i hu; rw [isAggT_struct hu] at ha; cases ha
    · rename_i hu; rw [isAggT_array hu] at ha; cases ha

theorem leaves_und {d : Nat} {t : TypeId} {l : List Lf} (h : leaves P d t = some l) : ∃ q, P.underlying t = some q := by
  cases d with
  | zero => simp [leaves] at h
  | succ d =>
    simp only [leaves] at h
    cases hu : P.underlying t with
    | none => simp [hu] at h
    | some q => exact ⟨q, rfl⟩

theorem equalIn_leaves : ∀ (d : Nat) (D : Nat) (t : TypeId) (l : List Lf) (xs ys : List Value) (b : Bool), d ≤ D → leaves P d t = some l → xs.length = l.length → ys.length = l.length → rowEq l xs ys = some b →
    (Op.equalIn D t (ofCells P t xs) (ofCells P t ys)).run P w = .ok b w
  | 0, D, t, l, xs, ys, b, _, h, _, _, _ => by simp [leaves] at h
  | d + 1, D, t, l, xs, ys, b, hD, h, hx, hy, hr => by
    obtain ⟨D, rfl⟩ : ∃ k, D = k + 1 := ⟨D - 1, by omega⟩
    have hD' : d ≤ D := by omega
    have two : ∀ lf, l = [lf] → ∃ x y, xs = [x] ∧ ys = [y] ∧ cellEq lf x y = some b := by
      intro lf hl
      subst hl
      match xs, ys, hx, hy with
      | [x], [y], _, _ =>
        refine ⟨x, y, rfl, rfl, ?_⟩
        simp only [rowEq] at hr
        cases hc : cellEq lf x y with
        | none => simp [hc] at hr
        | some a => simp [hc] at hr; rw [hr]
    simp only [leaves] at h
    split at h <;> first | (cases h; done) | skip
    · rename_i k hu
      simp at h
      obtain ⟨x, y, rfl, rfl, hc⟩ := two _ h.symm
      have ha : isAggT P t = false := by simp [isAggT, hu]
      simp only [ofCells, ha, Bool.false_eq_true, if_false, List.headD_cons]
      cases x <;> cases y <;> simp [cellEq] at hc
      obtain ⟨rfl, rfl⟩ := hc
      exact run_equalIn_int w D t _ k _ _ hu
    · rename_i hu
      simp at h
      obtain ⟨x, y, rfl, rfl, hc⟩ := two _ h.symm
      have ha : isAggT P t = false := by simp [isAggT, hu]
      simp only [ofCells, ha, Bool.false_eq_true, if_false, List.headD_cons]
      cases x <;> cases y <;> simp [cellEq] at hc
      subst hc
      exact run_equalIn_bool' w D t _ _ hu
    · rename_i hu
      simp at h
      obtain ⟨x, y, rfl, rfl, hc⟩ := two _ h.symm
      have ha : isAggT P t = false := by simp [isAggT, hu]
      simp only [ofCells, ha, Bool.false_eq_true, if_false, List.headD_cons]
      cases x <;> cases y <;> simp [cellEq] at hc
      subst hc
      simp [Op.equalIn, run_und hu]
    · rename_i fs hu
      split at h
      · cases h
      · rename_i hst
        have hf : P.fieldsOf t = fs := by simp [Program.fieldsOf, hu]
        simp only [ofCells, isAggT_struct hu, if_true]
        rw [run_equalIn_struct w D t _ _ (by rw [hf]; exact hu) (by simpa using hst), hf]
        have key : ∀ (fl : List Field) (pre pre' : List Value) (off : Nat) (l : List Lf) (xs ys : List Value) (b : Bool), fieldLeavesW P (leaves P d) fl off = some l → pre.length = off → pre'.length = off → xs.length = l.length → ys.length = l.length →
            rowEq l xs ys = some b → (Op.eqFields D (pre ++ xs).toArray (pre' ++ ys).toArray fl).run P w = .ok b w := by
          intro fl
          induction fl with
          | nil =>
            intro pre pre' off l xs ys b h _ _ hx hy hr
            simp [fieldLeavesW] at h
            subst h
            cases xs <;> simp at hx
            cases ys <;> simp at hy
            simp [rowEq] at hr
            subst hr
            simp [Op.eqFields]
          | cons f fl ih =>
            intro pre pre' off l xs ys b h hp hp' hx hy hr
            simp only [fieldLeavesW] at h
            split at h
            · rename_i hn
              obtain ⟨hn, hoff⟩ := hn
              cases hl : leaves P d f.type with
              | none => simp [hl] at h
              | some lf =>
                simp only [hl] at h
                split at h
                · rename_i hsz
                  obtain ⟨lr, hlr, rfl⟩ := Option.map_eq_some_iff.1 h
                  obtain ⟨q, hq⟩ := leaves_und hl
                  simp only [List.length_append] at hx hy
                  have ex : xs = xs.take lf.length ++ xs.drop lf.length := (List.take_append_drop _ _).symm
                  have ey : ys = ys.take lf.length ++ ys.drop lf.length := (List.take_append_drop _ _).symm
                  have lx : (xs.take lf.length).length = lf.length := by simp; omega
                  have ly : (ys.take lf.length).length = lf.length := by simp; omega
                  rw [ex, ey] at hr ⊢
                  obtain ⟨b1, b2, r1, r2, rfl⟩ := rowEq_append lx ly hr
                  have hone : isAggT P f.type = false → P.cellsOf f.type = 1 := fun ha => by rw [← hsz]; exact leaves_scalar hl ha
                  have px := run_part (w := w) hq pre (xs.take lf.length) (xs.drop lf.length) (by omega) hone
                  have py := run_part (w := w) hq pre' (ys.take lf.length) (ys.drop lf.length) (by omega) hone
                  rw [hp, ← hoff] at px
                  rw [hp', ← hoff] at py
                  simp only [Op.eqFields, hn, ne_eq, not_false_eq_true, if_true, Sem.run_bind, px, py, Result.andThen_ok]
                  rw [equalIn_leaves d D f.type lf _ _ b1 hD' hl lx ly r1]
                  simp only [Result.andThen_ok]
                  cases b1 with
                  | false => simp
                  | true =>
                    simp only [Bool.not_true, Bool.false_eq_true, if_false, Bool.true_and]
                    have := ih (pre ++ xs.take lf.length) (pre' ++ ys.take lf.length) (off + lf.length) lr (xs.drop lf.length) (ys.drop lf.length) b2 hlr (by simp only [List.length_append, hp, lx]) (by simp only [List.length_append, hp', ly]) (by simp; omega) (by simp; omega) r2
                    simpa [List.append_assoc] using this
                · cases h
            · cases h
        simpa using key fs.toList [] [] 0 l xs ys b h rfl rfl hx hy hr
    · rename_i n e hu
      cases hl : leaves P d e with
      | none => simp [hl] at h
      | some le =>
        simp only [hl] at h
        split at h
        · rename_i hsz
          simp at h
          subst h
          obtain ⟨q, hq⟩ := leaves_und hl
          have hone : isAggT P e = false → P.cellsOf e = 1 := fun ha => by rw [← hsz]; exact leaves_scalar hl ha
          simp only [ofCells, isAggT_array hu, if_true]
          simp only [Op.equalIn, Sem.run_bind, run_und hu, Result.andThen_ok, run_size hq]
          have key : ∀ (m : Nat) (pre pre' : List Value) (i : Nat) (xs ys : List Value) (b : Bool), pre.length = i * P.cellsOf e → pre'.length = i * P.cellsOf e → xs.length = (List.replicate m le).flatten.length → ys.length = (List.replicate m le).flatten.length →
              rowEq (List.replicate m le).flatten xs ys = some b →
              ((forIn (List.range' i m) ((none, ()) : Option Bool × Unit) (fun i _ => do
                let a ← part e (pre ++ xs).toArray (i * P.cellsOf e)
                let a' ← part e (pre' ++ ys).toArray (i * P.cellsOf e)
                let r ← Op.equalIn D e a a'
                if (!r) = true then pure (ForInStep.done (some false, ())) else pure (ForInStep.yield (none, ()))) : Sem (Option Bool × Unit)).run P w) = .ok (if b then (none, ()) else (some false, ())) w := by
            intro m
            induction m with
            | zero =>
              intro pre pre' i xs ys b _ _ hx hy hr
              cases xs <;> simp at hx
              cases ys <;> simp at hy
              simp [rowEq] at hr
              subst hr
              simp
            | succ m ih =>
              intro pre pre' i xs ys b hp hp' hx hy hr
              rw [List.replicate_succ, List.flatten_cons] at hx hy hr
              simp only [List.length_append] at hx hy
              have ex : xs = xs.take le.length ++ xs.drop le.length := (List.take_append_drop _ _).symm
              have ey : ys = ys.take le.length ++ ys.drop le.length := (List.take_append_drop _ _).symm
              have lx : (xs.take le.length).length = le.length := by simp; omega
              have ly : (ys.take le.length).length = le.length := by simp; omega
              rw [ex, ey] at hr ⊢
              obtain ⟨b1, b2, r1, r2, rfl⟩ := rowEq_append lx ly hr
              have px := run_part (w := w) hq pre (xs.take le.length) (xs.drop le.length) (by omega) hone
              have py := run_part (w := w) hq pre' (ys.take le.length) (ys.drop le.length) (by omega) hone
              rw [hp] at px
              rw [hp'] at py
              rw [List.range'_succ, List.forIn_cons]
              simp only [Sem.run_bind, px, py, Result.andThen_ok]
              rw [equalIn_leaves d D e le _ _ b1 hD' hl lx ly r1]
              simp only [Result.andThen_ok]
              cases b1 with
              | false => simp
              | true =>
                simp only [Bool.not_true, Bool.false_eq_true, if_false, Bool.true_and, Sem.run_pure, Result.andThen_ok]
                have := ih (pre ++ xs.take le.length) (pre' ++ ys.take le.length) (i + 1) (xs.drop le.length) (ys.drop le.length) b2 (by simp only [List.length_append, hp, lx]; rw [hsz, Nat.succ_mul]) (by simp only [List.length_append, hp', ly]; rw [hsz, Nat.succ_mul]) (by simp at hx ⊢; omega) (by simp at hy ⊢; omega) r2
                simpa [List.append_assoc] using this
          have := key n [] [] 0 xs ys b (by simp) (by simp) hx hy hr
          simp only [List.nil_append] at this
          rw [Std.Legacy.Range.forIn_eq_forIn_range']
          simp only [Std.Legacy.Range.size, Nat.sub_zero, Nat.add_one_sub_one, Nat.div_one]
          rw [this]
          cases b <;> simp
        · cases h
end
end Go.X
