import Derived.Orders
import Derived.Laws.Sem
/- A part of the walking machine: shown once for every program of the model; no condition of its own. -/
/- The words of a small symbolic machine: values with their kinds, rows of cells, a heap by small numbers. -/
namespace Go.X

abbrev W64 := BitVec 64

def rowGet {n : Nat} {α : Type} (d : α) (r : Fin n → α) (i : Nat) : α := if h : i < n then r ⟨i, h⟩ else d
def rowSet {n : Nat} {α : Type} (r : Fin n → α) (i : Nat) (v : α) : Fin n → α := fun j => if j.val = i then v else r j

theorem rowGet_set {n : Nat} {α : Type} (d : α) (r : Fin n → α) (i j : Nat) (v : α) (h : j < n) :
    rowGet d (rowSet r i v) j = if j = i then v else rowGet d r j := by
  simp [rowGet, rowSet, h]

/-- A state of the processor. -/
structure St where
  X : Fin 32 → W64
  pc : W64
  level : Int
  v : Bool
  C : Fin 29 → W64
  done : W64

def St.zero : St := ⟨fun _ => 0, 0, 0, false, fun _ => 0, 0⟩

/-- An index that is known as a term alone: number 'i' of elements of 'sz' cells, 'sub' cells into it; 'n': how many there are. -/
structure Dyn where
  i : Nat
  sz : Nat
  sub : Nat
  n : Nat

structure XA where
  id : Nat
  off : Nat
  dyn : Option Dyn

def XA.o (a : XA) : Nat := match a.dyn with | none => a.off | some d => a.off + (d.i * d.sz + d.sub)

inductive SC where
  | u64 (s : Bool) (x : BitVec 64)
  | u32 (s : Bool) (x : BitVec 32)
  | u8 (s : Bool) (x : BitVec 8)
  | int (k : IntKind) (s : Bool) (n : Int)
  | bool (s : Bool) (b : Bool)
  | str (s : Bool) (x : ByteArray)
  | nil
  | ptr (a : XA)
  | ptrIf (b : Bool) (a : XA)
  | slcNil
  | slc (a : XA) (s : Bool) (len cap : Nat)

inductive Seg where
  | one (v : SC)
  | st (s : St)
  | u64s (s : Bool) (n : Nat) (f : Nat → BitVec 64)
  | u8s (s : Bool) (n : Nat) (f : Nat → BitVec 8)
  | ints (k : IntKind) (s : Bool) (n : Nat) (f : Nat → Int)
  | bools (s : Bool) (n : Nat) (f : Nat → Bool)
  | recs (n sz : Nat) (g : Nat → List SC)

inductive V where
  | sc (v : SC)
  | agg (g : List Seg)
  | fn (f : Fn) (first captured : List SC)

inductive SV where
  | any
  | ev (v : V)
  | tup (l : List V)
  | grd (g : Bool) (v : V)

/-! ### What they stand for -/
def XA.enc (ρ : Nat → Addr) (a : XA) : Addr := (ρ a.id).add a.o

def SC.enc (ρ : Nat → Addr) : SC → Value
  | .u64 _ x => .int .u64 x.toNat
  | .u32 _ x => .int .u32 x.toNat
  | .u8 _ x => .int .u8 x.toNat
  | .int k _ n => .int k n
  | .bool _ b => .bool b
  | .str _ x => .string x
  | .nil => .pointer none
  | .ptr a => .pointer (some (a.enc ρ))
  | .ptrIf b a => .pointer (if b then some (a.enc ρ) else none)
  | .slcNil => .slice none 0 0
  | .slc a _ len cap => .slice (some (a.enc ρ)) len cap

def stCells (s : St) : List Value :=
  (List.range 32).map (fun i => Value.int .u64 (rowGet 0 s.X i).toNat) ++
    [.int .u64 s.pc.toNat, .int .i64 s.level, .bool s.v] ++
    (List.range 29).map (fun i => Value.int .u64 (rowGet 0 s.C i).toNat) ++ [.int .u64 s.done.toNat]

def Seg.cells (ρ : Nat → Addr) : Seg → List Value
  | .one v => [v.enc ρ]
  | .st s => stCells s
  | .u64s _ n f => (List.range n).map fun i => .int .u64 (f i).toNat
  | .u8s _ n f => (List.range n).map fun i => .int .u8 (f i).toNat
  | .ints k _ n f => (List.range n).map fun i => .int k (f i)
  | .bools _ n f => (List.range n).map fun i => .bool (f i)
  | .recs n sz g => (List.range (n * sz)).map fun i => (((g (i / sz))[i % sz]?).getD .nil).enc ρ

def cellsOf (ρ : Nat → Addr) : List Seg → List Value
  | [] => []
  | g :: r => g.cells ρ ++ cellsOf ρ r

def V.enc (ρ : Nat → Addr) : V → Value
  | .sc v => v.enc ρ
  | .agg g => .agg (cellsOf ρ g).toArray
  | .fn f first captured => .func f (first.map (SC.enc ρ)).toArray (captured.map (SC.enc ρ)).toArray

/-! ### Whose numbers they bear -/
def SC.inA (A : Nat → Prop) : SC → Prop
  | .ptr a | .ptrIf _ a | .slc a _ _ _ => A a.id
  | _ => True

def Seg.inA (A : Nat → Prop) : Seg → Prop
  | .one v => v.inA A
  | .recs _ _ g => ∀ i, ∀ v ∈ g i, v.inA A
  | _ => True

def segsInA (A : Nat → Prop) (l : List Seg) : Prop := ∀ g ∈ l, g.inA A

def V.inA (A : Nat → Prop) : V → Prop
  | .sc v => v.inA A
  | .agg g => segsInA A g
  | .fn _ first captured => (∀ v ∈ first, v.inA A) ∧ (∀ v ∈ captured, v.inA A)

theorem SC.enc_congr {A : Nat → Prop} {ρ ρ' : Nat → Addr} (h : ∀ i, A i → ρ' i = ρ i) {v : SC} (hv : v.inA A) : v.enc ρ' = v.enc ρ := by
  cases v <;> simp_all [SC.enc, SC.inA, XA.enc]

theorem Seg.cells_congr {A : Nat → Prop} {ρ ρ' : Nat → Addr} (h : ∀ i, A i → ρ' i = ρ i) {g : Seg} (hv : g.inA A) : g.cells ρ' = g.cells ρ := by
  cases g with
  | one v => simp only [Seg.cells]; rw [SC.enc_congr h hv]
  | recs n sz g =>
    simp only [Seg.cells]
    refine List.map_congr_left fun i _ => ?_
    cases hg : (g (i / sz))[i % sz]? with
    | none => rfl
    | some v => exact SC.enc_congr h (hv _ _ (List.mem_of_getElem? hg))
  | _ => rfl

theorem cellsOf_congr {A : Nat → Prop} {ρ ρ' : Nat → Addr} (h : ∀ i, A i → ρ' i = ρ i) {l : List Seg} (hv : segsInA A l) : cellsOf ρ' l = cellsOf ρ l := by
  induction l with
  | nil => rfl
  | cons g r ih =>
    simp only [cellsOf]
    rw [Seg.cells_congr h (hv g (by simp)), ih (fun x hx => hv x (by simp [hx]))]

theorem V.enc_congr {A : Nat → Prop} {ρ ρ' : Nat → Addr} (h : ∀ i, A i → ρ' i = ρ i) {v : V} (hv : v.inA A) : v.enc ρ' = v.enc ρ := by
  cases v with
  | sc v => exact SC.enc_congr h hv
  | agg g => simp only [V.enc, cellsOf_congr h hv]
  | fn f a b =>
    simp only [V.enc]
    rw [List.map_congr_left fun x hx => SC.enc_congr h (hv.1 x hx), List.map_congr_left fun x hx => SC.enc_congr h (hv.2 x hx)]

theorem SC.inA_mono {A A' : Nat → Prop} (h : ∀ i, A i → A' i) {v : SC} (hv : v.inA A) : v.inA A' := by
  cases v <;> simp_all [SC.inA]
theorem Seg.inA_mono {A A' : Nat → Prop} (h : ∀ i, A i → A' i) {v : Seg} (hv : v.inA A) : v.inA A' := by
  cases v with
  | one v => exact SC.inA_mono h hv
  | recs n sz g => exact fun i v hm => SC.inA_mono h (hv i v hm)
  | _ => trivial
theorem segsInA_mono {A A' : Nat → Prop} (h : ∀ i, A i → A' i) {v : List Seg} (hv : segsInA A v) : segsInA A' v :=
  fun g hg => Seg.inA_mono h (hv g hg)
theorem V.inA_mono {A A' : Nat → Prop} (h : ∀ i, A i → A' i) {v : V} (hv : v.inA A) : v.inA A' := by
  cases v with
  | sc v => exact SC.inA_mono h hv
  | agg g => exact segsInA_mono h hv
  | fn f a b => exact ⟨fun v hx => SC.inA_mono h (hv.1 v hx), fun v hx => SC.inA_mono h (hv.2 v hx)⟩

/-- What a slot holds. -/
def R (ρ : Nat → Addr) (A : Nat → Prop) : SV → Value → Prop
  | .any, _ => True
  | .ev v, u => v.inA A ∧ u = v.enc ρ
  | .tup l, u => (∀ v ∈ l, v.inA A) ∧ u = .tuple (l.map (V.enc ρ)).toArray
  | .grd g v, u => (g = true → v.inA A ∧ u = v.enc ρ) ∧ (g = false → u = undef)

theorem R.mono {ρ ρ' : Nat → Addr} {A A' : Nat → Prop} (h : ∀ i, A i → ρ' i = ρ i) (hA : ∀ i, A i → A' i) {x : SV} {u : Value} (hr : R ρ A x u) : R ρ' A' x u := by
  cases x with
  | any => trivial
  | ev v => exact ⟨V.inA_mono hA hr.1, by rw [V.enc_congr h hr.1]; exact hr.2⟩
  | tup l =>
    refine ⟨fun v hv => V.inA_mono hA (hr.1 v hv), ?_⟩
    rw [hr.2, List.map_congr_left fun x hx => V.enc_congr h (hr.1 x hx)]
  | grd g v => exact ⟨fun hg => ⟨V.inA_mono hA (hr.1 hg).1, by rw [V.enc_congr h (hr.1 hg).1]; exact (hr.1 hg).2⟩, hr.2⟩

/-! ### Rows of cells: reading and writing -/
def Seg.len : Seg → Nat
  | .one _ => 1
  | .st _ => 65
  | .u64s _ n _ | .u8s _ n _ | .ints _ _ n _ | .bools _ n _ => n
  | .recs n sz _ => n * sz

def segsLen : List Seg → Nat
  | [] => 0
  | g :: r => g.len + segsLen r

theorem stCells_length (s : St) : (stCells s).length = 65 := by simp [stCells]
theorem Seg.cells_length (ρ : Nat → Addr) (g : Seg) : (g.cells ρ).length = g.len := by
  cases g <;> simp [Seg.cells, Seg.len, stCells_length]
theorem cellsOf_length (ρ : Nat → Addr) (l : List Seg) : (cellsOf ρ l).length = segsLen l := by
  induction l with
  | nil => rfl
  | cons g r ih => simp [cellsOf, segsLen, Seg.cells_length, ih]
theorem cellsOf_append (ρ : Nat → Addr) (l m : List Seg) : cellsOf ρ (l ++ m) = cellsOf ρ l ++ cellsOf ρ m := by
  induction l with
  | nil => rfl
  | cons g r ih => simp [cellsOf, ih]
theorem segsLen_append (l m : List Seg) : segsLen (l ++ m) = segsLen l + segsLen m := by
  induction l with
  | nil => simp [segsLen]
  | cons g r ih => simp [segsLen, ih]; omega

/-- A state's parts. -/
def stParts (s : St) : List Seg :=
  [.u64s false 32 (fun i => rowGet 0 s.X i), .one (.u64 false s.pc), .one (.int .i64 false s.level), .one (.bool false s.v),
   .u64s false 29 (fun i => rowGet 0 s.C i), .one (.u64 false s.done)]

theorem cellsOf_stParts (ρ : Nat → Addr) (s : St) : cellsOf ρ (stParts s) = stCells s := by
  simp [stParts, cellsOf, Seg.cells, stCells, SC.enc]

/-- A row cut behind its first 'n' cells. -/
def Seg.cut (g : Seg) (n : Nat) : Option (List Seg × List Seg) :=
  match g with
  | .one _ => none
  | .st s =>
    if n = 32 then some ([.u64s false 32 (fun i => rowGet 0 s.X i)], [.one (.u64 false s.pc), .one (.int .i64 false s.level), .one (.bool false s.v), .u64s false 29 (fun i => rowGet 0 s.C i), .one (.u64 false s.done)])
    else if n = 35 then some ([.u64s false 32 (fun i => rowGet 0 s.X i), .one (.u64 false s.pc), .one (.int .i64 false s.level), .one (.bool false s.v)], [.u64s false 29 (fun i => rowGet 0 s.C i), .one (.u64 false s.done)])
    else none
  | .u64s s m f => some ([.u64s s n f], [.u64s s (m - n) fun i => f (n + i)])
  | .u8s s m f => some ([.u8s s n f], [.u8s s (m - n) fun i => f (n + i)])
  | .ints k s m f => some ([.ints k s n f], [.ints k s (m - n) fun i => f (n + i)])
  | .bools s m f => some ([.bools s n f], [.bools s (m - n) fun i => f (n + i)])
  | .recs _ _ _ => none

theorem range_split {α : Type} (f : Nat → α) (n m : Nat) (h : n ≤ m) : (List.range m).map f = (List.range n).map f ++ (List.range (m - n)).map fun i => f (n + i) := by
  obtain ⟨k, rfl⟩ := Nat.exists_eq_add_of_le h
  rw [List.range_add, List.map_append, List.map_map, Nat.add_sub_cancel_left]
  rfl

theorem Seg.cut_spec {g : Seg} {n : Nat} {l r : List Seg} (h : g.cut n = some (l, r)) (hn : n ≤ g.len) (ρ : Nat → Addr) : g.cells ρ = cellsOf ρ l ++ cellsOf ρ r ∧ segsLen l = n := by
  cases g with
  | one v => simp [Seg.cut] at h
  | st s =>
    simp only [Seg.cut] at h
    split at h
    · simp only [Option.some.injEq, Prod.mk.injEq] at h
      obtain ⟨rfl, rfl⟩ := h
      subst n
      refine ⟨?_, by simp [segsLen, Seg.len]⟩
      rw [← cellsOf_append]
      exact (cellsOf_stParts ρ s).symm
    · split at h
      · simp only [Option.some.injEq, Prod.mk.injEq] at h
        obtain ⟨rfl, rfl⟩ := h
        subst n
        refine ⟨?_, by simp [segsLen, Seg.len]⟩
        rw [← cellsOf_append]
        exact (cellsOf_stParts ρ s).symm
      · cases h
  | u64s s m f | u8s s m f | ints k s m f | bools s m f =>
    simp only [Seg.cut, Option.some.injEq, Prod.mk.injEq] at h
    obtain ⟨rfl, rfl⟩ := h
    simp only [Seg.len] at hn
    refine ⟨?_, by simp [segsLen, Seg.len]⟩
    simp only [Seg.cells, cellsOf, List.append_nil]
    exact range_split _ _ _ hn
  | recs m sz f => simp [Seg.cut] at h

theorem Seg.cut_inA {A : Nat → Prop} {g : Seg} {n : Nat} {l r : List Seg} (h : g.cut n = some (l, r)) : segsInA A l ∧ segsInA A r := by
  cases g with
  | one v => simp [Seg.cut] at h
  | st s =>
    simp only [Seg.cut] at h
    split at h
    · simp only [Option.some.injEq, Prod.mk.injEq] at h
      obtain ⟨rfl, rfl⟩ := h
      constructor <;> intro g hg <;> simp at hg <;> rcases hg with rfl | rfl | rfl | rfl | rfl <;> simp_all [Seg.inA, SC.inA]
    · split at h
      · simp only [Option.some.injEq, Prod.mk.injEq] at h
        obtain ⟨rfl, rfl⟩ := h
        constructor <;> intro g hg <;> simp at hg <;> rcases hg with rfl | rfl | rfl | rfl <;> simp_all [Seg.inA, SC.inA]
      · cases h
  | u64s s m f | u8s s m f | ints k s m f | bools s m f =>
    simp only [Seg.cut, Option.some.injEq, Prod.mk.injEq] at h
    obtain ⟨rfl, rfl⟩ := h
    constructor <;> intro g hg <;> simp at hg <;> subst hg <;> trivial
  | recs m sz f => simp [Seg.cut] at h

/-- The first 'n' cells of a row, and the rest. -/
def split : List Seg → Nat → Option (List Seg × List Seg)
  | [], n => if n = 0 then some ([], []) else none
  | g :: r, n =>
    if n = 0 then some ([], g :: r)
    else if g.len ≤ n then (split r (n - g.len)).map fun (a, b) => (g :: a, b)
    else (g.cut n).map fun (a, b) => (a, b ++ r)

theorem split_spec (ρ : Nat → Addr) : ∀ {l : List Seg} {n : Nat} {a b : List Seg}, split l n = some (a, b) → cellsOf ρ l = cellsOf ρ a ++ cellsOf ρ b ∧ segsLen a = n
  | [], n, a, b, h => by
    simp only [split] at h
    split at h
    · simp at h; obtain ⟨rfl, rfl⟩ := h; subst n; simp [cellsOf, segsLen]
    · cases h
  | g :: r, n, a, b, h => by
    simp only [split] at h
    split at h
    · simp at h; obtain ⟨rfl, rfl⟩ := h; subst n; simp [cellsOf, segsLen]
    · split at h
      · rename_i hle
        cases hs : split r (n - g.len) with
        | none => simp [hs] at h
        | some p =>
          obtain ⟨a', b'⟩ := p
          simp [hs] at h
          obtain ⟨rfl, rfl⟩ := h
          have ih := split_spec ρ hs
          refine ⟨by simp [cellsOf, ih.1], by simp [segsLen, ih.2]; omega⟩
      · rename_i hlt
        cases hc : g.cut n with
        | none => simp [hc] at h
        | some p =>
          obtain ⟨a', b'⟩ := p
          simp [hc] at h
          obtain ⟨rfl, rfl⟩ := h
          have := Seg.cut_spec hc (by omega) ρ
          refine ⟨by simp [cellsOf, cellsOf_append, this.1], this.2⟩

theorem split_inA {A : Nat → Prop} : ∀ {l : List Seg} {n : Nat} {a b : List Seg}, split l n = some (a, b) → segsInA A l → segsInA A a ∧ segsInA A b
  | [], n, a, b, h, hl => by
    simp only [split] at h
    split at h
    · simp at h; obtain ⟨rfl, rfl⟩ := h; exact ⟨hl, hl⟩
    · cases h
  | g :: r, n, a, b, h, hl => by
    simp only [split] at h
    split at h
    · simp at h; obtain ⟨rfl, rfl⟩ := h; exact ⟨fun g hg => by simp at hg, hl⟩
    · split at h
      · cases hs : split r (n - g.len) with
        | none => simp [hs] at h
        | some p =>
          obtain ⟨a', b'⟩ := p
          simp [hs] at h
          obtain ⟨rfl, rfl⟩ := h
          have ih := split_inA (A := A) hs (fun x hx => hl x (by simp [hx]))
          refine ⟨fun x hx => ?_, ih.2⟩
          rcases List.mem_cons.1 hx with rfl | hx
          · exact hl _ (by simp)
          · exact ih.1 x hx
      · cases hc : g.cut n with
        | none => simp [hc] at h
        | some p =>
          obtain ⟨a', b'⟩ := p
          simp [hc] at h
          obtain ⟨rfl, rfl⟩ := h
          have := Seg.cut_inA (A := A) hc
          refine ⟨this.1, fun x hx => ?_⟩
          rcases List.mem_append.1 hx with hx | hx
          · exact this.2 x hx
          · exact hl x (by simp [hx])

/-- One cell. -/
def Seg.rd (g : Seg) (o : Nat) : SC :=
  match g with
  | .one v => v
  | .st s => if o < 32 then .u64 false (rowGet 0 s.X o) else if o = 32 then .u64 false s.pc else if o = 33 then .int .i64 false s.level
    else if o = 34 then .bool false s.v else if o < 64 then .u64 false (rowGet 0 s.C (o - 35)) else .u64 false s.done
  | .u64s s _ f => .u64 s (f o)
  | .u8s s _ f => .u8 s (f o)
  | .ints k s _ f => .int k s (f o)
  | .bools s _ f => .bool s (f o)
  | .recs _ sz g => ((g (o / sz))[o % sz]?).getD .nil

def rd : List Seg → Nat → Option SC
  | [], _ => none
  | g :: r, o => if o < g.len then some (g.rd o) else rd r (o - g.len)

theorem stCells_get (s : St) (ρ : Nat → Addr) (o : Nat) (h : o < 65) : (stCells s)[o]? = some (((Seg.st s).rd o).enc ρ) := by
  simp only [Seg.rd]
  by_cases h1 : o < 32
  · simp [stCells, h1, SC.enc, List.getElem?_append]
  · rw [if_neg h1]
    by_cases h2 : o < 35
    · have : o = 32 ∨ o = 33 ∨ o = 34 := by omega
      rcases this with rfl | rfl | rfl <;> simp [stCells, SC.enc]
    · rw [if_neg (by omega), if_neg (by omega), if_neg (by omega)]
      by_cases h3 : o < 64
      · rw [if_pos h3]
        simp only [stCells, List.append_assoc]
        rw [List.getElem?_append_right (by simp; omega), List.getElem?_append_right (by simp; omega), List.getElem?_append_left (by simp; omega)]
        have hlt : o - 35 < 29 := by omega
        have hr : (List.range 29)[o - 35]? = some (o - 35) := by rw [List.getElem?_eq_getElem (by simpa using hlt)]; simp
        simp [SC.enc, Nat.sub_sub, hr]
      · have : o = 64 := by omega
        subst this
        simp [stCells, SC.enc]

theorem Seg.rd_spec (ρ : Nat → Addr) (g : Seg) (o : Nat) (h : o < g.len) : (g.cells ρ)[o]? = some ((g.rd o).enc ρ) := by
  cases g with
  | one v => simp [Seg.len] at h; subst h; rfl
  | st s => exact stCells_get s ρ o h
  | u64s s n f | u8s s n f | ints k s n f | bools s n f => simp only [Seg.len] at h; simp [Seg.cells, Seg.rd, SC.enc, h]
  | recs n sz g => simp only [Seg.len] at h; simp [Seg.cells, Seg.rd, h]

theorem rd_spec (ρ : Nat → Addr) : ∀ {l : List Seg} {o : Nat} {v : SC}, rd l o = some v → (cellsOf ρ l)[o]? = some (v.enc ρ)
  | [], o, v, h => by simp [rd] at h
  | g :: r, o, v, h => by
    simp only [rd] at h
    simp only [cellsOf]
    split at h
    · rename_i hlt
      simp at h
      subst h
      rw [List.getElem?_append_left (by rw [Seg.cells_length]; exact hlt)]
      exact Seg.rd_spec ρ g o hlt
    · rename_i hge
      rw [List.getElem?_append_right (by rw [Seg.cells_length]; omega), Seg.cells_length]
      exact rd_spec ρ h

theorem Seg.rd_inA {A : Nat → Prop} {g : Seg} (h : g.inA A) (o : Nat) : (g.rd o).inA A := by
  cases g with
  | one v => exact h
  | st s => simp only [Seg.rd]; (repeat' split) <;> trivial
  | u64s s n f | u8s s n f | ints k s n f | bools s n f => trivial
  | recs n sz g =>
    simp only [Seg.rd]
    cases hg : (g (o / sz))[o % sz]? with
    | none => trivial
    | some v => exact h _ _ (List.mem_of_getElem? hg)

theorem rd_inA {A : Nat → Prop} : ∀ {l : List Seg} {o : Nat} {v : SC}, rd l o = some v → segsInA A l → v.inA A
  | [], o, v, h, _ => by simp [rd] at h
  | g :: r, o, v, h, hl => by
    simp only [rd] at h
    split at h
    · simp at h; subst h; exact Seg.rd_inA (hl g (by simp)) o
    · exact rd_inA h (fun x hx => hl x (by simp [hx]))

def upd {α : Type} (f : Nat → α) (i : Nat) (v : α) : Nat → α := fun j => if j = i then v else f j

/-- A cell written. -/
def Seg.wr (g : Seg) (o : Nat) (v : SC) : Option Seg :=
  match g, v with
  | .one _, v => some (.one v)
  | .st s, .u64 _ x => if o < 32 then some (.st { s with X := rowSet s.X o x }) else if o = 32 then some (.st { s with pc := x })
    else if o = 33 then none else if o = 34 then none else if o < 64 then some (.st { s with C := rowSet s.C (o - 35) x }) else some (.st { s with done := x })
  | .st s, .int .i64 _ n => if o = 33 then some (.st { s with level := n }) else none
  | .st s, .bool _ b => if o = 34 then some (.st { s with v := b }) else none
  | .u64s s n f, .u64 s' x => some (.u64s (s && s') n (upd f o x))
  | .u8s s n f, .u8 s' x => some (.u8s (s && s') n (upd f o x))
  | .ints k s n f, .int k' s' x => if k = k' then some (.ints k (s && s') n (upd f o x)) else none
  | .bools s n f, .bool s' x => some (.bools (s && s') n (upd f o x))
  | _, _ => none

def wr : List Seg → Nat → SC → Option (List Seg)
  | [], _, _ => none
  | g :: r, o, v => if o < g.len then (g.wr o v).map (· :: r) else (wr r (o - g.len) v).map (g :: ·)

theorem map_range_upd {α β : Type} (h : α → β) (f : Nat → α) (n o : Nat) (v : α) : (List.range n).map (fun i => h (upd f o v i)) = ((List.range n).map fun i => h (f i)).set o (h v) := by
  apply List.ext_getElem?
  intro i
  by_cases hi : i < n
  · by_cases ho : o = i
    · subst ho; simp [hi, upd]
    · have : ¬ i = o := fun e => ho e.symm
      simp [hi, upd, ho, this]
  · simp [hi]

theorem Seg.wr_len {g g' : Seg} {o : Nat} {v : SC} (h : g.wr o v = some g') : g'.len = g.len := by
  cases g with
  | one u => cases v <;> simp [Seg.wr] at h <;> subst h <;> rfl
  | st s =>
    cases v with
    | u64 s' x => simp only [Seg.wr] at h; (repeat' split at h) <;> first | (cases h; done) | (injection h with h; subst h; rfl)
    | int k s' n => cases k <;> simp only [Seg.wr] at h <;> first | (cases h; done) | (split at h <;> first | (cases h; done) | (injection h with h; subst h; rfl))
    | bool s' b => simp only [Seg.wr] at h; split at h <;> first | (cases h; done) | (injection h with h; subst h; rfl)
    | _ => simp [Seg.wr] at h
  | u64s s n f | u8s s n f | bools s n f => cases v <;> simp [Seg.wr] at h <;> subst h <;> rfl
  | ints k s n f =>
    cases v <;> simp [Seg.wr] at h
    obtain ⟨rfl, rfl⟩ := h; rfl
  | recs n sz g => cases v <;> simp [Seg.wr] at h

theorem stCells_set_X (s : St) (o : Nat) (x : W64) (h : o < 32) : stCells { s with X := rowSet s.X o x } = (stCells s).set o (.int .u64 x.toNat) := by
  have e : (List.range 32).map (fun i => Value.int .u64 (rowGet 0 (rowSet s.X o x) i).toNat) = ((List.range 32).map fun i => Value.int .u64 (rowGet 0 s.X i).toNat).set o (.int .u64 x.toNat) := by
    rw [← map_range_upd (fun y : W64 => Value.int .u64 y.toNat) (fun i => rowGet 0 s.X i) 32 o x]
    refine List.map_congr_left fun i hi => ?_
    rw [rowGet_set _ _ _ _ _ (by simpa using hi)]; rfl
  simp only [stCells, e, List.append_assoc]
  rw [List.set_append_left _ _ (by simpa using h)]

theorem stCells_set_C (s : St) (o : Nat) (x : W64) (h : o < 29) : stCells { s with C := rowSet s.C o x } = (stCells s).set (35 + o) (.int .u64 x.toNat) := by
  have e : (List.range 29).map (fun i => Value.int .u64 (rowGet 0 (rowSet s.C o x) i).toNat) = ((List.range 29).map fun i => Value.int .u64 (rowGet 0 s.C i).toNat).set o (.int .u64 x.toNat) := by
    rw [← map_range_upd (fun y : W64 => Value.int .u64 y.toNat) (fun i => rowGet 0 s.C i) 29 o x]
    refine List.map_congr_left fun i hi => ?_
    rw [rowGet_set _ _ _ _ _ (by simpa using hi)]; rfl
  simp only [stCells, e, List.append_assoc]
  rw [List.set_append_right _ _ (by simp; omega), List.set_append_right _ _ (by simp; omega), List.set_append_left _ _ (by simp; omega)]
  simp
  congr 1
  omega

theorem Seg.wr_spec (ρ : Nat → Addr) {g g' : Seg} {o : Nat} {v : SC} (h : g.wr o v = some g') (ho : o < g.len) : g'.cells ρ = (g.cells ρ).set o (v.enc ρ) := by
  cases g with
  | one u =>
    have : o = 0 := by simpa [Seg.len] using ho
    subst this
    cases v <;> simp [Seg.wr] at h <;> subst h <;> rfl
  | st s =>
    simp only [Seg.len] at ho
    cases v with
    | u64 s' x =>
      simp only [Seg.wr] at h
      by_cases h1 : o < 32
      · rw [if_pos h1] at h; injection h with h; subst h
        exact stCells_set_X s o x h1
      · rw [if_neg h1] at h
        by_cases h2 : o = 32
        · subst h2; simp at h; subst h; simp [Seg.cells, stCells, SC.enc]
        · rw [if_neg h2] at h
          by_cases h3 : o = 33
          · simp [h3] at h
          · rw [if_neg h3] at h
            by_cases h4 : o = 34
            · simp [h4] at h
            · rw [if_neg h4] at h
              by_cases h5 : o < 64
              · rw [if_pos h5] at h; injection h with h; subst h
                have := stCells_set_C s (o - 35) x (by omega)
                rw [show 35 + (o - 35) = o by omega] at this
                exact this
              · have : o = 64 := by omega
                subst this
                simp at h; subst h; simp [Seg.cells, stCells, SC.enc]
    | int k s' n =>
      cases k <;> simp only [Seg.wr] at h <;> first | (cases h; done) | skip
      split at h
      · rename_i e; subst e; injection h with h; subst h; simp [Seg.cells, stCells, SC.enc]
      · cases h
    | bool s' b =>
      simp only [Seg.wr] at h
      split at h
      · rename_i e; subst e; injection h with h; subst h; simp [Seg.cells, stCells, SC.enc]
      · cases h
    | _ => simp [Seg.wr] at h
  | u64s s n f =>
    cases v <;> simp [Seg.wr] at h
    subst h
    exact map_range_upd (fun y : W64 => Value.int .u64 y.toNat) f n o _
  | u8s s n f =>
    cases v <;> simp [Seg.wr] at h
    subst h
    exact map_range_upd (fun y : BitVec 8 => Value.int .u8 y.toNat) f n o _
  | bools s n f =>
    cases v <;> simp [Seg.wr] at h
    subst h
    exact map_range_upd (fun y : Bool => Value.bool y) f n o _
  | ints k s n f =>
    cases v <;> simp [Seg.wr] at h
    obtain ⟨rfl, rfl⟩ := h
    exact map_range_upd (fun y : Int => Value.int k y) f n o _
  | recs n sz g => cases v <;> simp [Seg.wr] at h

theorem wr_spec (ρ : Nat → Addr) : ∀ {l l' : List Seg} {o : Nat} {v : SC}, wr l o v = some l' → cellsOf ρ l' = (cellsOf ρ l).set o (v.enc ρ) ∧ o < segsLen l
  | [], l', o, v, h => by simp [wr] at h
  | g :: r, l', o, v, h => by
    simp only [wr] at h
    split at h
    · rename_i hlt
      cases hg : g.wr o v with
      | none => simp [hg] at h
      | some g' =>
        simp [hg] at h
        subst h
        simp only [cellsOf, segsLen, Seg.wr_spec ρ hg hlt]
        rw [List.set_append_left _ _ (by rw [Seg.cells_length]; exact hlt)]
        exact ⟨rfl, by omega⟩
    · rename_i hge
      cases hr : wr r (o - g.len) v with
      | none => simp [hr] at h
      | some r' =>
        simp [hr] at h
        subst h
        have ih := wr_spec ρ hr
        simp only [cellsOf, segsLen, ih.1]
        rw [List.set_append_right _ _ (by rw [Seg.cells_length]; omega), Seg.cells_length]
        exact ⟨rfl, by omega⟩

theorem Seg.wr_inA {A : Nat → Prop} {g g' : Seg} {o : Nat} {v : SC} (h : g.wr o v = some g') (hv : v.inA A) : g'.inA A := by
  cases g with
  | one u => cases v <;> simp [Seg.wr] at h <;> subst h <;> exact hv
  | st s =>
    cases v with
    | u64 s' x => simp only [Seg.wr] at h; (repeat' split at h) <;> first | (cases h; done) | (injection h with h; subst h; trivial)
    | int k s' n => cases k <;> simp only [Seg.wr] at h <;> first | (cases h; done) | (split at h <;> first | (cases h; done) | (injection h with h; subst h; trivial))
    | bool s' b => simp only [Seg.wr] at h; split at h <;> first | (cases h; done) | (injection h with h; subst h; trivial)
    | _ => simp [Seg.wr] at h
  | u64s s n f | u8s s n f | bools s n f => cases v <;> simp [Seg.wr] at h <;> subst h <;> trivial
  | ints k s n f =>
    cases v <;> simp [Seg.wr] at h
    obtain ⟨rfl, rfl⟩ := h; trivial
  | recs n sz g => cases v <;> simp [Seg.wr] at h

theorem wr_inA {A : Nat → Prop} : ∀ {l l' : List Seg} {o : Nat} {v : SC}, wr l o v = some l' → segsInA A l → v.inA A → segsInA A l'
  | [], l', o, v, h, _, _ => by simp [wr] at h
  | g :: r, l', o, v, h, hl, hv => by
    simp only [wr] at h
    split at h
    · cases hg : g.wr o v with
      | none => simp [hg] at h
      | some g' =>
        simp [hg] at h
        subst h
        intro x hx
        rcases List.mem_cons.1 hx with rfl | hx
        · exact Seg.wr_inA hg hv
        · exact hl x (by simp [hx])
    · cases hr : wr r (o - g.len) v with
      | none => simp [hr] at h
      | some r' =>
        simp [hr] at h
        subst h
        intro x hx
        rcases List.mem_cons.1 hx with rfl | hx
        · exact hl _ (by simp)
        · exact wr_inA hr (fun y hy => hl y (by simp [hy])) hv x hx

end Go.X
