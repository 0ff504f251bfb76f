import Derived.Test.YtbblenohgednjaaX18
/- A part of the walking machine: shown once for every program of the model; no condition of its own. -/
/- One answer out of many. -/
namespace Go.X

def XA.same (a a' : XA) : Bool := a.id == a'.id && a.off == a'.off && (match a.dyn, a'.dyn with | none, none => true | _, _ => false)

theorem XA.same_spec {a a' : XA} (h : XA.same a a' = true) : a = a' := by
  obtain ⟨i, o, d⟩ := a
  obtain ⟨i', o', d'⟩ := a'
  simp only [XA.same, Bool.and_eq_true, beq_iff_eq] at h
  obtain ⟨⟨rfl, rfl⟩, h⟩ := h
  split at h
  · rename_i h1 h2; simp_all
  · cases h

/-- Two values as one, by what 'b' says; blocks below 'm' are there whatever it says. -/
def mergeSC (m : Nat) (b : Bool) (x y : SC) : Option SC :=
  match x, y with
  | .u64 _ x, .u64 _ y => some (.u64 false (if b = true then x else y))
  | .u32 _ x, .u32 _ y => some (.u32 false (if b = true then x else y))
  | .u8 _ x, .u8 _ y => some (.u8 false (if b = true then x else y))
  | .int k _ x, .int k' _ y => if k = k' then some (.int k false (if b = true then x else y)) else none
  | .bool _ x, .bool _ y => some (.bool false (if b = true then x else y))
  | .str _ x, .str _ y => some (.str false (if b = true then x else y))
  | .nil, .nil => some .nil
  | .slcNil, .slcNil => some .slcNil
  | .ptr a, .ptr a' => if XA.same a a' then some (.ptr a) else none
  | .ptr a, .nil => if a.id < m then some (.ptrIf b a) else none
  | .nil, .ptr a => if a.id < m then some (.ptrIf (!b) a) else none
  | .ptrIf c a, .nil => if a.id < m then some (.ptrIf (b && c) a) else none
  | .nil, .ptrIf c a => if a.id < m then some (.ptrIf (!b && c) a) else none
  | .slc a _ l c, .slc a' _ l' c' => if XA.same a a' then some (.slc a false (if b = true then l else l') (if b = true then c else c')) else none
  | _, _ => none

def Mg (m : Nat) (b : Bool) (P Q : (Nat → Addr) → (Nat → Prop) → Prop) : Prop := ∀ ρ A, (∀ i, i < m → A i) → (b = true → P ρ A) ∧ (b = false → Q ρ A)

theorem mergeSC_spec {m : Nat} {b : Bool} {x y z : SC} (h : mergeSC m b x y = some z) :
    Mg m b (fun ρ A => x.enc ρ = z.enc ρ ∧ (x.inA A → z.inA A)) (fun ρ A => y.enc ρ = z.enc ρ ∧ (y.inA A → z.inA A)) := by
  intro ρ A hA
  unfold mergeSC at h
  split at h <;> first
    | (simp only [Option.some.injEq] at h; subst h; exact ⟨fun hb => by subst hb; exact ⟨rfl, fun _ => trivial⟩, fun hb => by subst hb; exact ⟨rfl, fun _ => trivial⟩⟩)
    | (cases h; done)
    | skip
  · split at h
    · rename_i hk; subst hk; simp only [Option.some.injEq] at h; subst h
      exact ⟨fun hb => by subst hb; exact ⟨rfl, fun _ => trivial⟩, fun hb => by subst hb; exact ⟨rfl, fun _ => trivial⟩⟩
    · cases h
  · split at h
    · rename_i hk; have := XA.same_spec hk; subst this; simp only [Option.some.injEq] at h; subst h
      exact ⟨fun hb => ⟨rfl, id⟩, fun hb => ⟨rfl, id⟩⟩
    · cases h
  · split at h
    · rename_i hk; simp only [Option.some.injEq] at h; subst h
      exact ⟨fun hb => by subst hb; exact ⟨rfl, id⟩, fun hb => by subst hb; exact ⟨rfl, fun _ => hA _ hk⟩⟩
    · cases h
  · split at h
    · rename_i hk; simp only [Option.some.injEq] at h; subst h
      exact ⟨fun hb => by subst hb; exact ⟨rfl, fun _ => hA _ hk⟩, fun hb => by subst hb; exact ⟨rfl, id⟩⟩
    · cases h
  · split at h
    · rename_i hk; simp only [Option.some.injEq] at h; subst h
      exact ⟨fun hb => by subst hb; exact ⟨by simp [SC.enc], id⟩, fun hb => by subst hb; exact ⟨by simp [SC.enc], fun _ => hA _ hk⟩⟩
    · cases h
  · split at h
    · rename_i hk; simp only [Option.some.injEq] at h; subst h
      exact ⟨fun hb => by subst hb; exact ⟨by simp [SC.enc], fun _ => hA _ hk⟩, fun hb => by subst hb; exact ⟨by simp [SC.enc], id⟩⟩
    · cases h
  · split at h
    · rename_i hk; have := XA.same_spec hk; subst this; simp only [Option.some.injEq] at h; subst h
      exact ⟨fun hb => by subst hb; exact ⟨by simp [SC.enc], id⟩, fun hb => by subst hb; exact ⟨by simp [SC.enc], id⟩⟩
    · cases h

def mergeSeg (m : Nat) (b : Bool) (x y : Seg) : Option Seg :=
  match x, y with
  | .one x, .one y => (mergeSC m b x y).map .one
  | .st x, .st y => some (.st (if b = true then x else y))
  | .u64s _ n x, .u64s _ m y => if n = m then some (.u64s false n (if b = true then x else y)) else none
  | .u8s _ n x, .u8s _ m y => if n = m then some (.u8s false n (if b = true then x else y)) else none
  | .ints k _ n x, .ints k' _ m y => if k = k' ∧ n = m then some (.ints k false n (if b = true then x else y)) else none
  | .bools _ n x, .bools _ m y => if n = m then some (.bools false n (if b = true then x else y)) else none
  | _, _ => none

theorem mergeSeg_spec {m : Nat} {b : Bool} {x y z : Seg} (h : mergeSeg m b x y = some z) :
    Mg m b (fun ρ A => x.cells ρ = z.cells ρ ∧ (x.inA A → z.inA A)) (fun ρ A => y.cells ρ = z.cells ρ ∧ (y.inA A → z.inA A)) := by
  intro ρ A hA
  unfold mergeSeg at h
  split at h
  · rename_i x y
    cases hm : mergeSC m b x y with
    | none => simp [hm] at h
    | some v =>
      simp [hm] at h; subst h
      obtain ⟨h1, h2⟩ := mergeSC_spec hm ρ A hA
      exact ⟨fun hb => ⟨by simp only [Seg.cells, (h1 hb).1], (h1 hb).2⟩, fun hb => ⟨by simp only [Seg.cells, (h2 hb).1], (h2 hb).2⟩⟩
  · simp only [Option.some.injEq] at h; subst h; exact ⟨fun hb => by subst hb; exact ⟨rfl, fun _ => trivial⟩, fun hb => by subst hb; exact ⟨rfl, fun _ => trivial⟩⟩
  all_goals first
    | (cases h; done)
    | (split at h
       · rename_i hk
         first
         | (obtain ⟨rfl, rfl⟩ := hk; simp only [Option.some.injEq] at h; subst h; exact ⟨fun hb => by subst hb; exact ⟨rfl, fun _ => trivial⟩, fun hb => by subst hb; exact ⟨rfl, fun _ => trivial⟩⟩)
         | (subst hk; simp only [Option.some.injEq] at h; subst h; exact ⟨fun hb => by subst hb; exact ⟨rfl, fun _ => trivial⟩, fun hb => by subst hb; exact ⟨rfl, fun _ => trivial⟩⟩)
       · cases h)

def mergeSegs (m : Nat) (b : Bool) : List Seg → List Seg → Option (List Seg)
  | [], [] => some []
  | x :: r, y :: s => match mergeSeg m b x y, mergeSegs m b r s with
    | some z, some l => some (z :: l)
    | _, _ => none
  | _, _ => none

theorem mergeSegs_spec {m : Nat} {b : Bool} : ∀ {x y z : List Seg}, mergeSegs m b x y = some z →
    Mg m b (fun ρ A => cellsOf ρ x = cellsOf ρ z ∧ (segsInA A x → segsInA A z)) (fun ρ A => cellsOf ρ y = cellsOf ρ z ∧ (segsInA A y → segsInA A z))
  | [], [], z, h => by simp [mergeSegs] at h; subst h; exact fun _ _ _ => ⟨fun _ => ⟨rfl, id⟩, fun _ => ⟨rfl, id⟩⟩
  | x :: r, y :: s, z, h => by
    simp only [mergeSegs] at h
    split at h
    · rename_i z' l h1 h2
      simp at h; subst h
      intro ρ A hA
      obtain ⟨a1, a2⟩ := mergeSeg_spec h1 ρ A hA
      obtain ⟨b1, b2⟩ := mergeSegs_spec h2 ρ A hA
      refine ⟨fun hb => ⟨by simp only [cellsOf, (a1 hb).1, (b1 hb).1], fun hx => ?_⟩, fun hb => ⟨by simp only [cellsOf, (a2 hb).1, (b2 hb).1], fun hx => ?_⟩⟩
      · unfold segsInA at *
        simp only [List.forall_mem_cons] at hx ⊢
        exact ⟨(a1 hb).2 hx.1, (b1 hb).2 hx.2⟩
      · unfold segsInA at *
        simp only [List.forall_mem_cons] at hx ⊢
        exact ⟨(a2 hb).2 hx.1, (b2 hb).2 hx.2⟩
    · cases h
  | [], _ :: _, z, h => by simp [mergeSegs] at h
  | _ :: _, [], z, h => by simp [mergeSegs] at h

def mergeV (m : Nat) (b : Bool) (x y : V) : Option V :=
  match x, y with
  | .sc x, .sc y => (mergeSC m b x y).map .sc
  | .agg x, .agg y => (mergeSegs m b x y).map .agg
  | _, _ => none

theorem mergeV_spec {m : Nat} {b : Bool} {x y z : V} (h : mergeV m b x y = some z) :
    Mg m b (fun ρ A => x.enc ρ = z.enc ρ ∧ (x.inA A → z.inA A)) (fun ρ A => y.enc ρ = z.enc ρ ∧ (y.inA A → z.inA A)) := by
  unfold mergeV at h
  split at h
  · rename_i x y
    cases hm : mergeSC m b x y with
    | none => simp [hm] at h
    | some v => simp [hm] at h; subst h; exact mergeSC_spec hm
  · rename_i x y
    cases hm : mergeSegs m b x y with
    | none => simp [hm] at h
    | some v =>
      simp [hm] at h; subst h
      intro ρ A hA
      obtain ⟨h1, h2⟩ := mergeSegs_spec hm ρ A hA
      exact ⟨fun hb => ⟨by simp only [V.enc, (h1 hb).1], (h1 hb).2⟩, fun hb => ⟨by simp only [V.enc, (h2 hb).1], (h2 hb).2⟩⟩
  · cases h

def mergeVs (m : Nat) (b : Bool) : List V → List V → Option (List V)
  | [], [] => some []
  | x :: r, y :: s => match mergeV m b x y, mergeVs m b r s with
    | some z, some l => some (z :: l)
    | _, _ => none
  | _, _ => none

theorem mergeVs_spec {m : Nat} {b : Bool} : ∀ {x y z : List V}, mergeVs m b x y = some z →
    Mg m b (fun ρ A => x.map (V.enc ρ) = z.map (V.enc ρ) ∧ ((∀ v ∈ x, v.inA A) → ∀ v ∈ z, v.inA A)) (fun ρ A => y.map (V.enc ρ) = z.map (V.enc ρ) ∧ ((∀ v ∈ y, v.inA A) → ∀ v ∈ z, v.inA A))
  | [], [], z, h => by simp [mergeVs] at h; subst h; exact fun _ _ _ => ⟨fun _ => ⟨rfl, id⟩, fun _ => ⟨rfl, id⟩⟩
  | x :: r, y :: s, z, h => by
    simp only [mergeVs] at h
    split at h
    · rename_i z' l h1 h2
      simp at h; subst h
      intro ρ A hA
      obtain ⟨a1, a2⟩ := mergeV_spec h1 ρ A hA
      obtain ⟨b1, b2⟩ := mergeVs_spec h2 ρ A hA
      refine ⟨fun hb => ⟨by simp only [List.map_cons, (a1 hb).1, (b1 hb).1], fun hx => ?_⟩, fun hb => ⟨by simp only [List.map_cons, (a2 hb).1, (b2 hb).1], fun hx => ?_⟩⟩
      · simp only [List.forall_mem_cons] at hx ⊢
        exact ⟨(a1 hb).2 hx.1, (b1 hb).2 hx.2⟩
      · simp only [List.forall_mem_cons] at hx ⊢
        exact ⟨(a2 hb).2 hx.1, (b2 hb).2 hx.2⟩
    · cases h
  | [], _ :: _, z, h => by simp [mergeVs] at h
  | _ :: _, [], z, h => by simp [mergeVs] at h

def mergeSV (m : Nat) (b : Bool) (x y : SV) : Option SV :=
  match x, y with
  | .ev x, .ev y => (mergeV m b x y).map .ev
  | .tup x, .tup y => (mergeVs m b x y).map .tup
  | _, _ => none

/-- One answer in the place of another, where the blocks below 'm' are there. -/
def Sub (m : Nat) (x y : SV) : Prop := ∀ ρ A v, (∀ i, i < m → A i) → R ρ A x v → R ρ A y v

theorem mergeSV_spec {m : Nat} {b : Bool} {x y z : SV} (h : mergeSV m b x y = some z) : (b = true → Sub m x z) ∧ (b = false → Sub m y z) := by
  unfold mergeSV at h
  split at h
  · rename_i x y
    cases hm : mergeV m b x y with
    | none => simp [hm] at h
    | some v =>
      simp [hm] at h; subst h
      refine ⟨fun hb ρ A u hA hr => ?_, fun hb ρ A u hA hr => ?_⟩
      · have := (mergeV_spec hm ρ A hA).1 hb
        exact ⟨this.2 hr.1, by rw [hr.2, this.1]⟩
      · have := (mergeV_spec hm ρ A hA).2 hb
        exact ⟨this.2 hr.1, by rw [hr.2, this.1]⟩
  · rename_i x y
    cases hm : mergeVs m b x y with
    | none => simp [hm] at h
    | some v =>
      simp [hm] at h; subst h
      refine ⟨fun hb ρ A u hA hr => ?_, fun hb ρ A u hA hr => ?_⟩
      · have := (mergeVs_spec hm ρ A hA).1 hb
        exact ⟨this.2 hr.1, by rw [hr.2, this.1]⟩
      · have := (mergeVs_spec hm ρ A hA).2 hb
        exact ⟨this.2 hr.1, by rw [hr.2, this.1]⟩
  · cases h

theorem Sub.refl (m : Nat) (x : SV) : Sub m x x := fun _ _ _ _ h => h
theorem Sub.trans {m : Nat} {x y z : SV} (h : Sub m x y) (k : Sub m y z) : Sub m x z := fun ρ A v hA hr => k ρ A v hA (h ρ A v hA hr)

/-! ### Flags do not matter -/
def SC.erase : SC → SC
  | .u64 _ x => .u64 false x
  | .u32 _ x => .u32 false x
  | .u8 _ x => .u8 false x
  | .int k _ n => .int k false n
  | .bool _ b => .bool false b
  | .str _ x => .str false x
  | .slc a _ l c => .slc a false l c
  | v => v
def Seg.erase : Seg → Seg
  | .one v => .one v.erase
  | .u64s _ n f => .u64s false n f
  | .u8s _ n f => .u8s false n f
  | .ints k _ n f => .ints k false n f
  | .bools _ n f => .bools false n f
  | g => g
def segsErase : List Seg → List Seg
  | [] => []
  | g :: r => g.erase :: segsErase r
def V.erase : V → V
  | .sc v => .sc v.erase
  | .agg g => .agg (segsErase g)
  | v => v
def vsErase : List V → List V
  | [] => []
  | v :: r => v.erase :: vsErase r
def SV.erase : SV → SV
  | .ev v => .ev v.erase
  | .tup l => .tup (vsErase l)
  | v => v

theorem SC.erase_enc (v : SC) (ρ : Nat → Addr) : v.erase.enc ρ = v.enc ρ := by cases v <;> rfl
theorem SC.erase_inA (v : SC) (A : Nat → Prop) : v.erase.inA A ↔ v.inA A := by cases v <;> rfl
theorem Seg.erase_cells (g : Seg) (ρ : Nat → Addr) : g.erase.cells ρ = g.cells ρ := by
  cases g <;> first | rfl | simp only [Seg.erase, Seg.cells, SC.erase_enc]
theorem Seg.erase_inA (g : Seg) (A : Nat → Prop) : g.erase.inA A ↔ g.inA A := by
  cases g <;> first | rfl | exact SC.erase_inA _ _
theorem segsErase_cells (ρ : Nat → Addr) : ∀ l : List Seg, cellsOf ρ (segsErase l) = cellsOf ρ l
  | [] => rfl
  | g :: r => by simp only [segsErase, cellsOf, Seg.erase_cells, segsErase_cells ρ r]
theorem segsErase_inA (A : Nat → Prop) : ∀ l : List Seg, segsInA A (segsErase l) ↔ segsInA A l
  | [] => Iff.rfl
  | g :: r => by
    have ih := segsErase_inA A r
    unfold segsInA at ih ⊢
    simp only [segsErase, List.forall_mem_cons, Seg.erase_inA, ih]
theorem V.erase_enc (v : V) (ρ : Nat → Addr) : v.erase.enc ρ = v.enc ρ := by
  cases v with
  | sc v => exact SC.erase_enc v ρ
  | agg g => simp only [V.erase, V.enc, segsErase_cells]
  | fn f a b => rfl
theorem V.erase_inA (v : V) (A : Nat → Prop) : v.erase.inA A ↔ v.inA A := by
  cases v with
  | sc v => exact SC.erase_inA v A
  | agg g => exact segsErase_inA A g
  | fn f a b => rfl
theorem vsErase_enc (ρ : Nat → Addr) : ∀ l : List V, (vsErase l).map (V.enc ρ) = l.map (V.enc ρ)
  | [] => rfl
  | v :: r => by simp only [vsErase, List.map_cons, V.erase_enc, vsErase_enc ρ r]
theorem vsErase_inA (A : Nat → Prop) : ∀ l : List V, (∀ v ∈ vsErase l, v.inA A) ↔ ∀ v ∈ l, v.inA A
  | [] => Iff.rfl
  | g :: r => by simp only [vsErase, List.forall_mem_cons, V.erase_inA, vsErase_inA A r]
theorem R_erase (ρ : Nat → Addr) (A : Nat → Prop) (x : SV) (v : Value) : R ρ A x.erase v ↔ R ρ A x v := by
  cases x with
  | ev u => simp only [SV.erase, R, V.erase_enc, V.erase_inA]
  | tup l => simp only [SV.erase, R, vsErase_enc, vsErase_inA]
  | _ => rfl
theorem sub_erase {m : Nat} {x y : SV} (h : x.erase = y.erase) : Sub m x y := fun ρ A v _ hr => (R_erase ρ A y v).1 (h ▸ (R_erase ρ A x v).2 hr)

/-- What must hold, in few words. -/
inductive Nd where
  | yes
  | prop (p : Prop)
  | and (x y : Nd)
  | ite (b : Bool) (x y : Nd)

def Nd.ok : Nd → Prop
  | .yes => True
  | .prop p => p
  | .and x y => x.ok ∧ y.ok
  | .ite b x y => (b = true → x.ok) ∧ (b = false → y.ok)

def Nd.need (p : Prop) : Nd → Nd
  | .yes => .prop p
  | x => .and (.prop p) x

def Nd.if' (b : Bool) (x y : Nd) : Nd := match x, y with
  | .yes, .yes => .yes
  | x, y => .ite b x y

theorem Nd.need_ok {p : Prop} {x : Nd} : (Nd.need p x).ok ↔ p ∧ x.ok := by cases x <;> simp [Nd.need, Nd.ok]
theorem Nd.if_ok {b : Bool} {x y : Nd} : (Nd.if' b x y).ok ↔ (b = true → x.ok) ∧ (b = false → y.ok) := by
  unfold Nd.if'; split
  · simp [Nd.ok]
  · rfl

/-- All answers as one. -/
def collapseM (m : Nat) : T (S × SV) → Option (Nd × SV)
  | .leaf x => some (.yes, x.2)
  | .ite b x y => match collapseM m x, collapseM m y with
    | some (n, u), some (k, v) => match mergeSV m b u v with
      | some z => some (Nd.if' b n k, z)
      | none => none
    | _, _ => none
  | .need p t => match collapseM m t with
    | some (n, v) => some (Nd.need p n, v)
    | none => none
  | _ => none

theorem collapseM_spec {m : Nat} : ∀ {t : T (S × SV)} {n : Nd} {sv : SV}, collapseM m t = some (n, sv) → n.ok → holds t (fun x => Sub m x.2 sv)
  | .leaf x, n, sv, h, _ => by simp [collapseM] at h; rw [← h.2]; exact Sub.refl _ _
  | .ite b x y, n, sv, h, hn => by
    simp only [collapseM] at h
    split at h
    · rename_i n1 u n2 v h1 h2
      split at h
      · rename_i z hz
        simp at h
        obtain ⟨rfl, rfl⟩ := h
        rw [Nd.if_ok] at hn
        obtain ⟨m1, m2⟩ := mergeSV_spec hz
        exact ⟨fun hb => holds_mono (fun _ hx => hx.trans (m1 hb)) (collapseM_spec h1 (hn.1 hb)), fun hb => holds_mono (fun _ hx => hx.trans (m2 hb)) (collapseM_spec h2 (hn.2 hb))⟩
      · cases h
    · cases h
  | .need p t, n, sv, h, hn => by
    simp only [collapseM] at h
    split at h
    · rename_i k v h1
      simp at h
      obtain ⟨rfl, rfl⟩ := h
      rw [Nd.need_ok] at hn
      exact ⟨hn.1, collapseM_spec h1 hn.2⟩
    · cases h
  | .asm p t, n, sv, h, hn => by simp [collapseM] at h
  | .all f, n, sv, h, hn => by simp [collapseM] at h
  | .fail, n, sv, h, hn => by simp [collapseM] at h

def collapse (t : T (S × SV)) : Option (Nd × SV) := collapseM 0 t
theorem collapse_spec {t : T (S × SV)} {n : Nd} {sv : SV} (h : collapse t = some (n, sv)) (hn : n.ok) : holds t (fun x => Sub 0 x.2 sv) := collapseM_spec h hn

/-! ### Functions that touch no memory but their own -/
/-- Where nothing has a model of its own. -/
def noBlocks : Blocks := fun _ => none

theorem allBlocks_no {E : Env} {K : Ctx} {nt : Nat} : ∀ c : Code, AllBlocks E K nt noBlocks c
  | .seq x y => ⟨allBlocks_no x, allBlocks_no y⟩
  | .cond _ x y => ⟨allBlocks_no x, allBlocks_no y⟩
  | .block _ c => allBlocks_no (E := E) (K := K) (nt := nt) c
  | .loop c => allBlocks_no (E := E) (K := K) (nt := nt) c
  | .scope c => allBlocks_no (E := E) (K := K) (nt := nt) c
  | .skip | .region _ _ _ | .rangeFunc _ _ _ _ | .exit _ | .label _ | .goto _ | .ret | .refuse _ => trivial

/-- Free of numbers of blocks. -/
def V.noId : V → Bool
  | .sc v => v.noId
  | .agg g => segsNoId g
  | .fn _ a b => a.all SC.noId && b.all SC.noId
def SV.noId : SV → Bool
  | .ev v => v.noId
  | .tup l => l.all V.noId
  | _ => false

theorem V.noId_inA {v : V} (h : v.noId = true) (A : Nat → Prop) : v.inA A := by
  cases v with
  | sc v => exact SC.noId_inA h A
  | agg g => exact segsNoId_inA h A
  | fn f a b =>
    simp only [V.noId, Bool.and_eq_true, List.all_eq_true] at h
    exact ⟨fun v hv => SC.noId_inA (h.1 v hv) A, fun v hv => SC.noId_inA (h.2 v hv) A⟩

theorem SV.noId_free {x : SV} (h : x.noId = true) : SVfree x := by
  intro ρ A v hr ρ' A'
  cases x with
  | any => cases h
  | ev u =>
    have hi := V.noId_inA h
    exact ⟨hi A', by rw [hr.2]; exact V.enc_congr (A := fun _ => False) (fun _ h => h.elim) (hi _)⟩
  | tup l =>
    simp only [SV.noId, List.all_eq_true] at h
    refine ⟨fun u hu => V.noId_inA (h u hu) A', ?_⟩
    rw [hr.2]
    congr 2
    exact List.map_congr_left fun u hu => V.enc_congr (A := fun _ => False) (fun _ h => h.elim) (V.noId_inA (h u hu) _)
  | grd g v => cases h

theorem pure_ok {E : Env} (hE : EnvOk E) (hm : E.P.follows .mixedOrders = true) {g : FuncId} {fn : Func} {c : Code} (hf : E.P.funcs[g]? = some fn) (hname : (fn.name == "runtime.NumGoroutine") = false) (hb : fn.body = some c) {Lp : Blocks} {fl : Nat}
    (hB : ∀ K, AllBlocks E K fn.ntmps Lp c) {f : List V → Option (List Prop × SV)}
    (h : ∀ args ns sv, f args = some (ns, sv) → ∃ args' n sv', (∀ ρ, args'.map (V.enc ρ) = args.map (V.enc ρ)) ∧ args'.length ≤ fn.ntmps ∧ args'.all V.noId = true ∧ sv.noId = true ∧ collapse (fnT E fn c Lp fl args' (fun _ => none) 0) = some (n, sv') ∧ ((∀ p ∈ ns, p) → n.ok ∧ Sub 0 sv' sv)) :
    ModelOk E.P g (pureM f) := by
  refine ⟨⟨fn, hf, hname, by simp [hb]⟩, fun args ρ A hp w fid Q hs hargs hfresh hP => ?_⟩
  obtain ⟨r, l, hr, hP⟩ := hP 0
  unfold pureM at hr
  split at hr
  · rename_i ns sv hfa
    simp only [Rd.run, Option.some.injEq, Prod.mk.injEq] at hr
    obtain ⟨rfl, rfl⟩ := hr
    obtain ⟨args', n, sv', h0, h1, h2, h3, h4, h5⟩ := h args ns sv hfa
    obtain ⟨hn, hk⟩ := hP (by simp)
    obtain ⟨h6, h7⟩ := h5 hn
    have hs0 : HSim ρ (fun _ => False) (fun _ => none) w := ⟨fun _ _ h => (by cases h), fun _ _ h => (by cases h), fun _ _ _ _ h => (by cases h), fun _ _ h => (by cases h), fun _ _ h => (by cases h)⟩
    rw [← h0 ρ]
    refine fnT_ok (D := fun _ => False) hE hm hf hb hs0 (hB _) (fun v hv => V.noId_inA (List.all_eq_true.1 h2 v hv) _) h1 (fun i hi => hi.elim) (fun i b h => by cases h) (holds_mono (fun x hx ρ' A' v w' _ hv hfr _ _ => ?_) (collapse_spec h4 h6))
    refine hk ρ A v w' (Ext.refl _ _ _) ?_ (SV.noId_free h3 _ _ _ (h7 _ _ _ (fun _ h => absurd h (Nat.not_lt_zero _)) (hx _ _ _ (fun _ h => absurd h (Nat.not_lt_zero _)) hv)) ρ A) (hfr.mono fun _ _ h => h.elim) (fun i h1 h2 => absurd h1 h2)
    simp only [applyRes, applyWrs, applyNews]
    exact hs.frame hfr fun _ _ _ h => h
  · cases hr

/-! ### The functions' models, as a list -/
structure Entry where
  g : FuncId
  M : List V → Nat → Nat → Rd
  C : Bool

def find : List Entry → FuncId → Option Entry
  | [], _ => none
  | x :: r, g => if x.g = g then some x else find r g

/-- A model with more than one answer. -/
structure BEntry where
  g : FuncId
  M : List V → Nat → Hp → T (Res × List Nat)

def findB : List BEntry → FuncId → Option BEntry
  | [], _ => none
  | x :: r, g => if x.g = g then some x else findB r g

def envOf (P : Program) (st : TypeId) (l : List Entry) (lb : List BEntry := []) : Env := ⟨P, st, fun g => (find l g).map (·.M), fun g => ((find l g).map (·.C)).getD false, fun g => (findB lb g).map (·.M)⟩

def BEntriesOk (P : Program) : List BEntry → Prop
  | [] => True
  | x :: r => BModelOk P x.g x.M ∧ BEntriesOk P r

theorem findB_spec {P : Program} : ∀ {l : List BEntry} {g : FuncId} {x : BEntry}, BEntriesOk P l → findB l g = some x → BModelOk P x.g x.M ∧ x.g = g
  | [], _, _, _, h => by cases h
  | y :: r, g, x, hl, h => by
    simp only [findB] at h
    split at h
    · rename_i e; simp at h; subst h; exact ⟨hl.1, e⟩
    · exact findB_spec hl.2 h

def EntryOk (P : Program) (x : Entry) : Prop := ModelOk P x.g x.M ∧ (x.C = false → ∀ args fid c, x.M args fid c = x.M args fid 0)

def EntriesOk (P : Program) : List Entry → Prop
  | [] => True
  | x :: r => EntryOk P x ∧ EntriesOk P r

theorem find_spec {P : Program} : ∀ {l : List Entry} {g : FuncId} {x : Entry}, EntriesOk P l → find l g = some x → EntryOk P x ∧ x.g = g
  | [], _, _, _, h => by cases h
  | y :: r, g, x, hl, h => by
    simp only [find] at h
    split at h
    · rename_i e; simp at h; subst h; exact ⟨hl.1, e⟩
    · exact find_spec hl.2 h

theorem envOf_ok {P : Program} {st : TypeId} {l : List Entry} {lb : List BEntry} (h : EntriesOk P l) (hb : BEntriesOk P lb := by trivial) : EnvOk (envOf P st l lb) where
  B g M hM := by
    simp only [envOf, Option.map_eq_some_iff] at hM
    obtain ⟨x, hx, rfl⟩ := hM
    obtain ⟨h1, rfl⟩ := findB_spec hb hx
    exact h1
  F g M hM := by
    simp only [envOf, Option.map_eq_some_iff] at hM
    obtain ⟨x, hx, rfl⟩ := hM
    obtain ⟨h1, rfl⟩ := find_spec h hx
    exact h1.1
  C g M hM hC := by
    simp only [envOf, Option.map_eq_some_iff] at hM hC
    obtain ⟨x, hx, rfl⟩ := hM
    obtain ⟨h1, rfl⟩ := find_spec h hx
    rw [hx] at hC
    exact h1.2 hC

def pureE (g : FuncId) (f : List V → Option (List Prop × SV)) : Entry := ⟨g, pureM f, false⟩
theorem pureE_ok {P : Program} {g : FuncId} {f : List V → Option (List Prop × SV)} (h : ModelOk P g (pureM f)) : EntryOk P (pureE g f) := ⟨h, fun _ _ _ _ => rfl⟩

end Go.X
