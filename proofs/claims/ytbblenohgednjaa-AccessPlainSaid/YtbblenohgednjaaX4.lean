import Derived.Test.YtbblenohgednjaaX3
/- A part of the walking machine: shown once for every program of the model; no condition of its own. -/
/- Loads and stores at known and unknown places. -/
namespace Go.X

def isAggT (P : Program) (t : TypeId) : Bool := match P.underlying t with
  | some (.struct _) | some (.array _ _) => true
  | _ => false

section
variable {P : Program} {w : World}
theorem run_und {t : TypeId} {d : TypeDesc} (h : P.underlying t = some d) : (underlying t).run P w = .ok d w := by simp [underlying, h]
theorem run_info {t : TypeId} {i : TypeInfo} (h : P.info? t = some i) : (typeInfo t).run P w = .ok i w := by simp [typeInfo, h]
theorem und_info {t : TypeId} {d : TypeDesc} (h : P.underlying t = some d) : ∃ i, P.info? t = some i := by
  unfold Program.underlying at h
  cases hi : P.info? t with
  | none => simp [hi] at h
  | some i => exact ⟨i, rfl⟩
theorem run_size {t : TypeId} {d : TypeDesc} (h : P.underlying t = some d) : (sizeOf t).run P w = .ok (P.cellsOf t) w := by
  obtain ⟨i, hi⟩ := und_info h
  simp [sizeOf, run_info hi, Program.cellsOf, hi]
theorem run_isAgg {t : TypeId} {d : TypeDesc} (h : P.underlying t = some d) : (isAgg t).run P w = .ok (isAggT P t) w := by
  simp only [isAgg, Sem.run_bind, run_und h, Result.andThen_ok, isAggT, h]
  cases d <;> rfl
theorem isAggT_und {t : TypeId} (h : isAggT P t = true) : ∃ d, P.underlying t = some d := by
  unfold isAggT at h
  cases hd : P.underlying t with
  | none => simp [hd] at h
  | some d => exact ⟨d, rfl⟩
end

/-! ### One of a row -/
def SC.u64? : SC → Option (BitVec 64) | .u64 _ x => some x | _ => none
def SC.u32? : SC → Option (BitVec 32) | .u32 _ x => some x | _ => none
def SC.u8? : SC → Option (BitVec 8) | .u8 _ x => some x | _ => none
def SC.int? (k : IntKind) : SC → Option Int | .int k' _ x => if k = k' then some x else none | _ => none
def SC.bool? : SC → Option Bool | .bool _ x => some x | _ => none
def SC.str? : SC → Option ByteArray | .str _ x => some x | _ => none

def mapAll {α β : Type} (f : α → Option β) : List α → Option (List β)
  | [] => some []
  | x :: r => match f x with
    | some y => (mapAll f r).map (y :: ·)
    | none => none

theorem mapAll_spec {α β : Type} {f : α → Option β} : ∀ {l : List α} {m : List β}, mapAll f l = some m → m.length = l.length ∧ ∀ (i : Nat) (x : α), l[i]? = some x → ∃ y, m[i]? = some y ∧ f x = some y
  | [], m, h => by simp [mapAll] at h; subst h; exact ⟨rfl, fun i x hx => by simp at hx⟩
  | x :: r, m, h => by
    simp only [mapAll] at h
    cases hx : f x with
    | none => simp [hx] at h
    | some y =>
      simp only [hx] at h
      cases hr : mapAll f r with
      | none => simp [hr] at h
      | some m' =>
        simp [hr] at h
        subst h
        obtain ⟨h1, h2⟩ := mapAll_spec hr
        refine ⟨by simp [h1], fun i z hz => ?_⟩
        cases i with
        | zero => simp at hz; subst hz; exact ⟨y, rfl, hx⟩
        | succ i => simpa using h2 i z (by simpa using hz)

def pick {α : Type} (d : α) (l : List α) (i : Nat) : α := (l[i]?).getD d

def selSC (l : List SC) (i : Nat) : Option SC :=
  match l with
  | .u64 _ _ :: _ => (mapAll SC.u64? l).map fun xs => .u64 false (pick 0 xs i)
  | .u32 _ _ :: _ => (mapAll SC.u32? l).map fun xs => .u32 false (pick 0 xs i)
  | .u8 _ _ :: _ => (mapAll SC.u8? l).map fun xs => .u8 false (pick 0 xs i)
  | .int k _ _ :: _ => (mapAll (SC.int? k) l).map fun xs => .int k false (pick 0 xs i)
  | .bool _ _ :: _ => (mapAll SC.bool? l).map fun xs => .bool false (pick false xs i)
  | .str _ _ :: _ => (mapAll SC.str? l).map fun xs => .str false (pick .empty xs i)
  | _ => none

theorem selSC_spec {ρ : Nat → Addr} {l : List SC} {i : Nat} {v u : SC} (h : selSC l i = some v) (hu : l[i]? = some u) : v.enc ρ = u.enc ρ ∧ ∀ A, v.inA A := by
  unfold selSC at h
  split at h <;> first | (cases h; done) | skip
  all_goals
    obtain ⟨xs, hm, h⟩ := Option.map_eq_some_iff.1 h
    subst h
    obtain ⟨y, h1, h2⟩ := (mapAll_spec hm).2 i u hu
    refine ⟨?_, fun _ => trivial⟩
    cases u <;> simp [SC.u64?, SC.u32?, SC.u8?, SC.int?, SC.bool?, SC.str?] at h2 <;> simp_all [SC.enc, pick]

/-- A place that is known as a term alone: read. -/
def Seg.dynRd (g : Seg) (o : Nat) (d : Dyn) : Option (Prop × SC) :=
  match g with
  | .one _ => none
  | .st s =>
    if d.sz = 1 ∧ d.sub = 0 then
      (if o = 0 then some (d.i < 32, .u64 false (rowGet 0 s.X d.i)) else if o = 35 then some (d.i < 29, .u64 false (rowGet 0 s.C d.i)) else none)
    else none
  | .u64s _ n f => if d.sz = 1 ∧ d.sub = 0 then (if o = 0 then some (d.i < n, .u64 false (f d.i)) else some (o + d.i < n, .u64 false (f (o + d.i)))) else none
  | .u8s _ n f => if d.sz = 1 ∧ d.sub = 0 then (if o = 0 then some (d.i < n, .u8 false (f d.i)) else some (o + d.i < n, .u8 false (f (o + d.i)))) else none
  | .ints k _ n f => if d.sz = 1 ∧ d.sub = 0 then (if o = 0 then some (d.i < n, .int k false (f d.i)) else some (o + d.i < n, .int k false (f (o + d.i)))) else none
  | .bools _ n f => if d.sz = 1 ∧ d.sub = 0 then (if o = 0 then some (d.i < n, .bool false (f d.i)) else some (o + d.i < n, .bool false (f (o + d.i)))) else none
  | .recs n sz h => if o = 0 ∧ d.sz = sz ∧ d.sub < sz then some (d.i < n, ((h d.i)[d.sub]?).getD .nil) else none

theorem div_rec (i sz sub : Nat) (h : sub < sz) : (i * sz + sub) / sz = i ∧ (i * sz + sub) % sz = sub := by
  have hz : 0 < sz := by omega
  constructor
  · rw [Nat.mul_comm, Nat.mul_add_div hz, Nat.div_eq_of_lt h]; omega
  · rw [Nat.mul_comm, Nat.mul_add_mod, Nat.mod_eq_of_lt h]

theorem mul_lt_rec {i n sz sub : Nat} (h : sub < sz) (hi : i < n) : i * sz + sub < n * sz := by
  have := Nat.mul_le_mul_right sz (Nat.succ_le_of_lt hi)
  rw [Nat.succ_mul] at this
  omega

theorem Seg.dynRd_spec {ρ : Nat → Addr} {g : Seg} {o : Nat} {d : Dyn} {p : Prop} {v : SC} (h : g.dynRd o d = some (p, v)) (hp : p) :
    (g.cells ρ)[o + (d.i * d.sz + d.sub)]? = some (v.enc ρ) ∧ o + (d.i * d.sz + d.sub) < g.len := by
  cases g with
  | one u => simp [Seg.dynRd] at h
  | st s =>
    simp only [Seg.dynRd] at h
    split at h
    · rename_i hd
      obtain ⟨h1, h2⟩ := hd
      rw [h1, h2]
      split at h
      · rename_i ho; subst ho
        simp only [Option.some.injEq, Prod.mk.injEq] at h
        obtain ⟨rfl, rfl⟩ := h
        have := stCells_get s ρ d.i (by omega)
        simp only [Seg.rd, if_pos hp] at this
        simp only [Seg.cells, Nat.zero_add, Nat.mul_one, Nat.add_zero, Seg.len]
        exact ⟨this, by omega⟩
      · split at h
        · rename_i ho; subst ho
          simp only [Option.some.injEq, Prod.mk.injEq] at h
          obtain ⟨rfl, rfl⟩ := h
          have := stCells_get s ρ (35 + d.i) (by omega)
          simp only [Seg.rd] at this
          rw [if_neg (by omega), if_neg (by omega), if_neg (by omega), if_neg (by omega), if_pos (by omega), Nat.add_sub_cancel_left] at this
          simp only [Seg.cells, Nat.mul_one, Nat.add_zero, Seg.len]
          exact ⟨this, by omega⟩
        · cases h
    · cases h
  | u64s s n f | u8s s n f | ints k s n f | bools s n f =>
    simp only [Seg.dynRd] at h
    split at h
    · rename_i hd
      obtain ⟨h1, h2⟩ := hd
      rw [h1, h2]
      split at h
      · rename_i ho; subst ho
        simp only [Option.some.injEq, Prod.mk.injEq] at h
        obtain ⟨rfl, rfl⟩ := h
        simp [Seg.cells, Seg.len, SC.enc, hp]
      · simp only [Option.some.injEq, Prod.mk.injEq] at h
        obtain ⟨rfl, rfl⟩ := h
        simp [Seg.cells, Seg.len, SC.enc, hp]
    · cases h
  | recs n sz f =>
    simp only [Seg.dynRd] at h
    split at h
    · rename_i hd
      obtain ⟨rfl, h1, h2⟩ := hd
      simp only [Option.some.injEq, Prod.mk.injEq] at h
      obtain ⟨rfl, rfl⟩ := h
      obtain ⟨e1, e2⟩ := div_rec d.i sz d.sub h2
      have e3 := mul_lt_rec h2 hp
      simp only [Seg.cells, Seg.len, h1, Nat.zero_add]
      refine ⟨?_, e3⟩
      rw [List.getElem?_map, List.getElem?_eq_getElem (by simpa using e3)]
      simp [e1, e2]
    · cases h

theorem Seg.dynRd_inA {A : Nat → Prop} {g : Seg} {o : Nat} {d : Dyn} {p : Prop} {v : SC} (h : g.dynRd o d = some (p, v)) (hg : g.inA A) : v.inA A := by
  cases g with
  | one u => simp [Seg.dynRd] at h
  | recs n sz f =>
    simp only [Seg.dynRd] at h
    split at h
    · simp only [Option.some.injEq, Prod.mk.injEq] at h
      obtain ⟨rfl, rfl⟩ := h
      cases hq : (f d.i)[d.sub]? with
      | none => trivial
      | some v => exact hg _ _ (List.mem_of_getElem? hq)
    · cases h
  | _ =>
    simp only [Seg.dynRd] at h
    repeat' split at h
    all_goals first | (cases h; done) | (simp only [Option.some.injEq, Prod.mk.injEq] at h; obtain ⟨rfl, rfl⟩ := h; trivial)

def dynArr : List Seg → Nat → Dyn → Option (Prop × SC)
  | [], _, _ => none
  | [g], o, d => g.dynRd o d
  | g :: r, o, d => if o < g.len then g.dynRd o d else dynArr r (o - g.len) d

theorem dynArr_spec {ρ : Nat → Addr} : ∀ {l : List Seg} {o : Nat} {d : Dyn} {p : Prop} {v : SC}, dynArr l o d = some (p, v) → p → (cellsOf ρ l)[o + (d.i * d.sz + d.sub)]? = some (v.enc ρ)
  | [], o, d, p, v, h, _ => by simp [dynArr] at h
  | [g], o, d, p, v, h, hp => by
    simp only [dynArr] at h
    simp only [cellsOf, List.append_nil]
    exact (Seg.dynRd_spec h hp).1
  | g :: g' :: r, o, d, p, v, h, hp => by
    simp only [dynArr] at h
    rw [cellsOf]
    split at h
    · obtain ⟨h1, h2⟩ := Seg.dynRd_spec (ρ := ρ) h hp
      rw [List.getElem?_append_left (by rw [Seg.cells_length]; exact h2)]
      exact h1
    · have := dynArr_spec (ρ := ρ) h hp
      rw [List.getElem?_append_right (by rw [Seg.cells_length]; omega), Seg.cells_length]
      rwa [show o + (d.i * d.sz + d.sub) - g.len = o - g.len + (d.i * d.sz + d.sub) by omega]

theorem dynArr_inA {A : Nat → Prop} : ∀ {l : List Seg} {o : Nat} {d : Dyn} {p : Prop} {v : SC}, dynArr l o d = some (p, v) → segsInA A l → v.inA A
  | [], o, d, p, v, h, _ => by simp [dynArr] at h
  | [g], o, d, p, v, h, hl => Seg.dynRd_inA (by simpa [dynArr] using h) (hl g (by simp))
  | g :: g' :: r, o, d, p, v, h, hl => by
    simp only [dynArr] at h
    split at h
    · exact Seg.dynRd_inA h (hl g (by simp))
    · exact dynArr_inA h (fun x hx => hl x (by simp [hx]))

def dynCell (l : List Seg) (o : Nat) (d : Dyn) : Option (Prop × SC) :=
  match dynArr l o d with
  | some r => some r
  | none => match mapAll (fun j => rd l (o + (j * d.sz + d.sub))) (List.range d.n) with
    | some xs => (selSC xs d.i).map fun v => (d.i < d.n, v)
    | none => none

theorem dynCell_spec {ρ : Nat → Addr} {l : List Seg} {o : Nat} {d : Dyn} {p : Prop} {v : SC} (h : dynCell l o d = some (p, v)) (hp : p) : (cellsOf ρ l)[o + (d.i * d.sz + d.sub)]? = some (v.enc ρ) := by
  unfold dynCell at h
  split at h
  · rename_i r hr
    simp at h; subst h
    exact dynArr_spec hr hp
  · split at h
    · rename_i xs hxs
      cases hv : selSC xs d.i with
      | none => simp [hv] at h
      | some u =>
        simp only [hv, Option.map_some, Option.some.injEq, Prod.mk.injEq] at h
        obtain ⟨rfl, rfl⟩ := h
        obtain ⟨y, h1, h2⟩ := (mapAll_spec hxs).2 d.i d.i (by rw [List.getElem?_eq_getElem (by simpa using hp)]; simp)
        rw [(selSC_spec (ρ := ρ) hv h1).1]
        exact rd_spec ρ h2
    · cases h

theorem dynCell_inA {A : Nat → Prop} {l : List Seg} {o : Nat} {d : Dyn} {p : Prop} {v : SC} (h : dynCell l o d = some (p, v)) (hp : p) (hl : segsInA A l) : v.inA A := by
  unfold dynCell at h
  split at h
  · rename_i r hr
    simp at h; subst h
    exact dynArr_inA hr hl
  · split at h
    · rename_i xs hxs
      cases hv : selSC xs d.i with
      | none => simp [hv] at h
      | some u =>
        simp only [hv, Option.map_some, Option.some.injEq, Prod.mk.injEq] at h
        obtain ⟨rfl, rfl⟩ := h
        obtain ⟨y, h1, h2⟩ := (mapAll_spec hxs).2 d.i d.i (by rw [List.getElem?_eq_getElem (by simpa using hp)]; simp)
        exact (selSC_spec (ρ := fun _ => default) hv h1).2 A
    · cases h

/-- Several cells from such a place on. -/
def dynCells (l : List Seg) (o : Nat) (d : Dyn) (m : Nat) : Option (List Prop × List SC) :=
  match mapAll (fun c => dynCell l o { d with sub := d.sub + c }) (List.range m) with
  | some xs => some (xs.map (·.1), xs.map (·.2))
  | none => none

theorem dynCells_spec {ρ : Nat → Addr} {l : List Seg} {o : Nat} {d : Dyn} {m : Nat} {ps : List Prop} {vs : List SC} (h : dynCells l o d m = some (ps, vs)) (hp : ∀ p ∈ ps, p) :
    vs.length = m ∧ ∀ c v, vs[c]? = some v → (cellsOf ρ l)[o + (d.i * d.sz + d.sub) + c]? = some (v.enc ρ) ∧ ∀ A, segsInA A l → v.inA A := by
  unfold dynCells at h
  split at h
  · rename_i xs hxs
    simp only [Option.some.injEq, Prod.mk.injEq] at h
    obtain ⟨rfl, rfl⟩ := h
    obtain ⟨h1, h2⟩ := mapAll_spec hxs
    refine ⟨by simp [h1], fun c v hc => ?_⟩
    have hlt : c < m := by
      have := (List.getElem?_eq_some_iff.1 hc).1
      simpa [h1] using this
    obtain ⟨y, h3, h4⟩ := h2 c c (by rw [List.getElem?_eq_getElem (by simpa using hlt)]; simp)
    rw [List.getElem?_map, h3] at hc
    simp at hc
    subst hc
    obtain ⟨p, v⟩ := y
    have hpp : p := hp p (List.mem_map.2 ⟨(p, v), List.mem_of_getElem? h3, rfl⟩)
    have := dynCell_spec (ρ := ρ) h4 hpp
    exact ⟨by rw [← this]; congr 1; simp; omega, fun A hA => dynCell_inA h4 hpp hA⟩
  · cases h

/-! ### Loads -/
def loadV (P : Program) (t : TypeId) (a : XA) (b : Blk) : Option (List Prop × V) :=
  match a.dyn with
  | none =>
    if isAggT P t then
      match split b.segs a.off with
      | some (_, r) => match split r (P.cellsOf t) with
        | some (y, _) => some ([], .agg y)
        | none => none
      | none => none
    else (rd b.segs a.off).map fun v => ([], .sc v)
  | some d =>
    if isAggT P t then (dynCells b.segs a.off d (P.cellsOf t)).map fun (ps, l) => (ps, .agg (l.map .one))
    else (dynCell b.segs a.off d).map fun (p, v) => ([p], .sc v)

theorem cellsOf_ones (ρ : Nat → Addr) (l : List SC) : cellsOf ρ (l.map .one) = l.map (SC.enc ρ) := by
  induction l with
  | nil => rfl
  | cons v r ih => simp [cellsOf, Seg.cells, ih]

section
variable {P : Program} {ρ : Nat → Addr} {A : Nat → Prop} {hp : Hp} {w : World}

theorem run_loadCells_of {a : Addr} {l : List Value} (h : ∀ j v, l[j]? = some v → w.cell? (a.add j) = some v) : (loadCells a l.length).run P w = .ok l.toArray w := by
  have := run_loadCellsFrom (P := P) (w := w) l a 0 #[] (fun j v hj => by rw [Nat.zero_add]; exact h j v hj)
  simpa [Go.loadCells] using this

theorem loadV_spec (hs : HSim ρ A hp w) {t : TypeId} {d : TypeDesc} (ht : P.underlying t = some d) {a : XA} {b : Blk} (hb : hp a.id = some b) {ns : List Prop} {v : V} (h : loadV P t a b = some (ns, v)) (hn : ∀ p ∈ ns, p) :
    (loadVar t (a.enc ρ)).run P w = .ok (v.enc ρ) w ∧ v.inA A := by
  unfold loadV at h
  unfold loadVar
  simp only [Sem.run_bind, run_isAgg ht, Result.andThen_ok, XA.enc, XA.o]
  cases hd : a.dyn with
  | none =>
    simp only [hd] at h
    cases hag : isAggT P t with
    | true =>
      simp only [hag, if_true] at h
      split at h
      · rename_i x r hx
        split at h
        · rename_i y z hy
          simp only [Option.some.injEq, Prod.mk.injEq] at h
          obtain ⟨rfl, rfl⟩ := h
          have e1 := split_spec ρ hx
          have e2 := split_spec ρ hy
          simp only [if_true, Sem.run_bind, run_size ht, Result.andThen_ok]
          rw [hs.loadCells hb (x := x) (y := y) (z := z) (by rw [e1.1, e2.1]) e1.2 e2.2]
          simp only [Result.andThen_ok, Sem.run_pure, V.enc, true_and]
          exact (split_inA hy (split_inA hx (hs.inA _ _ hb)).2).1
        · cases h
      · cases h
    | false =>
      simp only [hag, Bool.false_eq_true, if_false] at h ⊢
      cases hr : rd b.segs a.off with
      | none => simp [hr] at h
      | some u =>
        simp only [hr, Option.map_some, Option.some.injEq, Prod.mk.injEq] at h
        obtain ⟨rfl, rfl⟩ := h
        rw [run_load_of (hs.cell hb (rd_spec ρ hr))]
        exact ⟨rfl, rd_inA hr (hs.inA _ _ hb)⟩
  | some dd =>
    simp only [hd] at h
    cases hag : isAggT P t with
    | true =>
      simp only [hag, if_true] at h
      cases hc : dynCells b.segs a.off dd (P.cellsOf t) with
      | none => simp [hc] at h
      | some q =>
        obtain ⟨ps, vs⟩ := q
        simp only [hc, Option.map_some, Option.some.injEq, Prod.mk.injEq] at h
        obtain ⟨rfl, rfl⟩ := h
        obtain ⟨h1, h2⟩ := dynCells_spec (ρ := ρ) hc hn
        simp only [if_true, Sem.run_bind, run_size ht, Result.andThen_ok]
        have := run_loadCells_of (P := P) (w := w) (a := (ρ a.id).add (a.off + (dd.i * dd.sz + dd.sub))) (l := vs.map (SC.enc ρ)) (fun j u hj => by
          rw [List.getElem?_map] at hj
          cases hj' : vs[j]? with
          | none => simp [hj'] at hj
          | some x =>
            simp [hj'] at hj
            subst hj
            rw [Addr.add_add]
            exact hs.cell hb (h2 j x hj').1)
        rw [List.length_map, h1] at this
        rw [this]
        simp only [Result.andThen_ok, Sem.run_pure, V.enc, cellsOf_ones, true_and]
        intro g hg
        obtain ⟨x, hx, rfl⟩ := List.mem_map.1 hg
        obtain ⟨j, hj⟩ := List.getElem?_of_mem hx
        exact (h2 j x hj).2 A (hs.inA _ _ hb)
    | false =>
      simp only [hag, Bool.false_eq_true, if_false] at h ⊢
      cases hr : dynCell b.segs a.off dd with
      | none => simp [hr] at h
      | some q =>
        obtain ⟨p, u⟩ := q
        simp only [hr, Option.map_some, Option.some.injEq, Prod.mk.injEq] at h
        obtain ⟨rfl, rfl⟩ := h
        have hp' : p := hn p (by simp)
        rw [run_load_of (hs.cell hb (dynCell_spec hr hp'))]
        exact ⟨rfl, dynCell_inA hr hp' (hs.inA _ _ hb)⟩
end

/-! ### Stores -/
def Seg.dynWr (g : Seg) (o : Nat) (d : Dyn) (v : SC) : Option (Prop × Seg) :=
  if d.sz = 1 ∧ d.sub = 0 then
    match g, v with
    | .st s, .u64 _ x => if o = 0 then some (d.i < 32, .st { s with X := rowSet s.X d.i x }) else if o = 35 then some (d.i < 29, .st { s with C := rowSet s.C d.i x }) else none
    | .u64s _ n f, .u64 _ x => some (o + d.i < n, .u64s false n (upd f (if o = 0 then d.i else o + d.i) x))
    | .u8s _ n f, .u8 _ x => some (o + d.i < n, .u8s false n (upd f (if o = 0 then d.i else o + d.i) x))
    | .ints k _ n f, .int k' _ x => if k = k' then some (o + d.i < n, .ints k false n (upd f (if o = 0 then d.i else o + d.i) x)) else none
    | .bools _ n f, .bool _ x => some (o + d.i < n, .bools false n (upd f (if o = 0 then d.i else o + d.i) x))
    | _, _ => none
  else none

theorem Seg.dynWr_spec {ρ : Nat → Addr} {g g' : Seg} {o : Nat} {d : Dyn} {v : SC} {p : Prop} (h : g.dynWr o d v = some (p, g')) (hp : p) :
    g'.cells ρ = (g.cells ρ).set (o + (d.i * d.sz + d.sub)) (v.enc ρ) ∧ o + (d.i * d.sz + d.sub) < g.len ∧ ∀ A, g'.inA A := by
  unfold Seg.dynWr at h
  split at h
  case isFalse => cases h
  rename_i hd
  obtain ⟨h1, h2⟩ := hd
  have ho : (if o = 0 then d.i else o + d.i) = o + d.i := by split <;> omega
  rw [h1, h2, Nat.mul_one, Nat.add_zero]
  split at h
  · rename_i s _ x
    split at h
    · rename_i ho; subst ho
      simp only [Option.some.injEq, Prod.mk.injEq] at h
      obtain ⟨rfl, rfl⟩ := h
      simp only [Nat.zero_add]
      exact ⟨stCells_set_X s _ x hp, by simp [Seg.len]; omega, fun _ => trivial⟩
    · split at h
      · rename_i ho; subst ho
        simp only [Option.some.injEq, Prod.mk.injEq] at h
        obtain ⟨rfl, rfl⟩ := h
        exact ⟨stCells_set_C s _ x hp, by simp [Seg.len]; omega, fun _ => trivial⟩
      · cases h
  · simp only [Option.some.injEq, Prod.mk.injEq, ho] at h
    obtain ⟨rfl, rfl⟩ := h
    exact ⟨map_range_upd (fun y : W64 => Value.int .u64 y.toNat) _ _ _ _, hp, fun _ => trivial⟩
  · simp only [Option.some.injEq, Prod.mk.injEq, ho] at h
    obtain ⟨rfl, rfl⟩ := h
    exact ⟨map_range_upd (fun y : BitVec 8 => Value.int .u8 y.toNat) _ _ _ _, hp, fun _ => trivial⟩
  · split at h
    · rename_i e; subst e
      simp only [Option.some.injEq, Prod.mk.injEq, ho] at h
      obtain ⟨rfl, rfl⟩ := h
      exact ⟨map_range_upd (fun y : Int => Value.int _ y) _ _ _ _, hp, fun _ => trivial⟩
    · cases h
  · simp only [Option.some.injEq, Prod.mk.injEq, ho] at h
    obtain ⟨rfl, rfl⟩ := h
    exact ⟨map_range_upd (fun y : Bool => Value.bool y) _ _ _ _, hp, fun _ => trivial⟩
  · cases h

def wrDyn : List Seg → Nat → Dyn → SC → Option (Prop × List Seg)
  | [], _, _, _ => none
  | [g], o, d, v => (g.dynWr o d v).map fun (p, g') => (p, [g'])
  | g :: r, o, d, v => if o < g.len then (g.dynWr o d v).map fun (p, g') => (p, g' :: r) else (wrDyn r (o - g.len) d v).map fun (p, r') => (p, g :: r')

theorem wrDyn_spec {ρ : Nat → Addr} : ∀ {l l' : List Seg} {o : Nat} {d : Dyn} {v : SC} {p : Prop}, wrDyn l o d v = some (p, l') → p →
    cellsOf ρ l' = (cellsOf ρ l).set (o + (d.i * d.sz + d.sub)) (v.enc ρ) ∧ o + (d.i * d.sz + d.sub) < segsLen l ∧ ∀ A, segsInA A l → segsInA A l'
  | [], l', o, d, v, p, h, _ => by simp [wrDyn] at h
  | [g], l', o, d, v, p, h, hp => by
    simp only [wrDyn] at h
    cases hg : g.dynWr o d v with
    | none => simp [hg] at h
    | some q =>
      obtain ⟨p', g'⟩ := q
      simp only [hg, Option.map_some, Option.some.injEq, Prod.mk.injEq] at h
      obtain ⟨rfl, rfl⟩ := h
      obtain ⟨h1, h2, h3⟩ := Seg.dynWr_spec (ρ := ρ) hg hp
      refine ⟨by simp only [cellsOf, List.append_nil, h1], by simpa [segsLen] using h2, fun A _ x hx => by simp at hx; subst hx; exact h3 A⟩
  | g :: g2 :: r, l', o, d, v, p, h, hp => by
    simp only [wrDyn] at h
    split at h
    · cases hg : g.dynWr o d v with
      | none => simp [hg] at h
      | some q =>
        obtain ⟨p', g'⟩ := q
        simp only [hg, Option.map_some, Option.some.injEq, Prod.mk.injEq] at h
        obtain ⟨rfl, rfl⟩ := h
        obtain ⟨h1, h2, h3⟩ := Seg.dynWr_spec (ρ := ρ) hg hp
        have e : ∀ a b, cellsOf ρ (a :: b) = a.cells ρ ++ cellsOf ρ b := fun _ _ => rfl
        rw [e g', e g, h1, List.set_append_left _ _ (by rw [Seg.cells_length]; exact h2)]
        refine ⟨rfl, by rw [segsLen]; omega, fun A hA x hx => ?_⟩
        rcases List.mem_cons.1 hx with rfl | hx
        · exact h3 A
        · exact hA x (List.mem_cons_of_mem _ hx)
    · cases hg : wrDyn (g2 :: r) (o - g.len) d v with
      | none => simp [hg] at h
      | some q =>
        obtain ⟨p', r'⟩ := q
        simp only [hg, Option.map_some, Option.some.injEq, Prod.mk.injEq] at h
        obtain ⟨rfl, rfl⟩ := h
        obtain ⟨h1, h2, h3⟩ := wrDyn_spec (ρ := ρ) hg hp
        have e : ∀ a b, cellsOf ρ (a :: b) = a.cells ρ ++ cellsOf ρ b := fun _ _ => rfl
        rw [e g, e g, h1, List.set_append_right _ _ (by rw [Seg.cells_length]; omega), Seg.cells_length]
        refine ⟨?_, by rw [segsLen]; omega, fun A hA x hx => ?_⟩
        · congr 2; omega
        · rcases List.mem_cons.1 hx with rfl | hx
          · exact hA _ (by simp)
          · exact h3 A (fun y hy => hA y (List.mem_cons_of_mem _ hy)) x hx

/-- A state put together again, where its parts stand written out. -/
def fuse : List Seg → List Seg
  | [.u64s s0 32 f, .one (.u64 s1 pc), .one (.int .i64 s2 lv), .one (.bool s3 v), .u64s s4 29 g, .one (.u64 s5 dn)] =>
    if s0 && s1 && s2 && s3 && s4 && s5 then [.u64s s0 32 f, .one (.u64 s1 pc), .one (.int .i64 s2 lv), .one (.bool s3 v), .u64s s4 29 g, .one (.u64 s5 dn)]
    else [.st ⟨fun i => f i.val, pc, lv, v, fun i => g i.val, dn⟩]
  | l => l

theorem range_map_congr {α : Type} {n : Nat} {f g : Nat → α} (h : ∀ i, i < n → f i = g i) : (List.range n).map f = (List.range n).map g :=
  List.map_congr_left fun i hi => h i (by simpa using hi)

theorem fuse_spec (ρ : Nat → Addr) (l : List Seg) : cellsOf ρ (fuse l) = cellsOf ρ l := by
  unfold fuse
  split
  · rename_i a f b pc c lv d v e g h dn
    split
    · rfl
    simp only [cellsOf, Seg.cells, stCells, SC.enc, List.append_nil, List.append_assoc, List.cons_append, List.nil_append]
    have e1 : (List.range 32).map (fun i => Value.int .u64 (rowGet 0 (fun i : Fin 32 => f i.val) i).toNat) = (List.range 32).map fun i => Value.int .u64 (f i).toNat :=
      range_map_congr fun i hi => by simp [rowGet, hi]
    have e2 : (List.range 29).map (fun i => Value.int .u64 (rowGet 0 (fun i : Fin 29 => g i.val) i).toNat) = (List.range 29).map fun i => Value.int .u64 (g i).toNat :=
      range_map_congr fun i hi => by simp [rowGet, hi]
    rw [e1, e2]
  · rfl

theorem fuse_inA {A : Nat → Prop} {l : List Seg} (h : segsInA A l) : segsInA A (fuse l) := by
  unfold fuse
  split
  · split
    · exact h
    · intro g hg; simp at hg; subst hg; trivial
  · exact h

/-- A row of a state's registers written at once. -/
def Seg.putRow (g : Seg) (o : Nat) (v : List Seg) : Option Seg :=
  match g, v with
  | .st s, [.u64s _ n f] => if o = 0 ∧ n = 32 then some (.st { s with X := fun i => f i.val }) else if o = 35 ∧ n = 29 then some (.st { s with C := fun i => f i.val }) else none
  | _, _ => none

theorem Seg.putRow_spec {ρ : Nat → Addr} {g g' : Seg} {o : Nat} {v : List Seg} (h : g.putRow o v = some g') :
    ∃ x y z : List Value, g.cells ρ = x ++ (y ++ z) ∧ g'.cells ρ = x ++ (cellsOf ρ v ++ z) ∧ x.length = o ∧ y.length = (cellsOf ρ v).length ∧ ∀ A, g'.inA A := by
  unfold Seg.putRow at h
  split at h
  · rename_i s _ n f
    split at h
    · rename_i ho
      obtain ⟨rfl, rfl⟩ := ho
      simp at h; subst h
      refine ⟨[], (List.range 32).map (fun i => Value.int .u64 (rowGet 0 s.X i).toNat), [.int .u64 s.pc.toNat, .int .i64 s.level, .bool s.v] ++ ((List.range 29).map (fun i => Value.int .u64 (rowGet 0 s.C i).toNat) ++ [.int .u64 s.done.toNat]),
        by simp [Seg.cells, stCells], ?_, rfl, by simp [cellsOf, Seg.cells], fun _ => trivial⟩
      have e : (List.range 32).map (fun i => Value.int .u64 (rowGet 0 (fun i : Fin 32 => f i.val) i).toNat) = (List.range 32).map fun i => Value.int .u64 (f i).toNat :=
        range_map_congr fun i hi => by simp [rowGet, hi]
      simp only [cellsOf, Seg.cells, stCells, e, List.append_assoc, List.nil_append]
    · split at h
      · rename_i ho
        obtain ⟨rfl, rfl⟩ := ho
        simp at h; subst h
        refine ⟨(List.range 32).map (fun i => Value.int .u64 (rowGet 0 s.X i).toNat) ++ [.int .u64 s.pc.toNat, .int .i64 s.level, .bool s.v], (List.range 29).map (fun i => Value.int .u64 (rowGet 0 s.C i).toNat), [.int .u64 s.done.toNat],
          by simp [Seg.cells, stCells], ?_, by simp, by simp [cellsOf, Seg.cells], fun _ => trivial⟩
        have e : (List.range 29).map (fun i => Value.int .u64 (rowGet 0 (fun i : Fin 29 => f i.val) i).toNat) = (List.range 29).map fun i => Value.int .u64 (f i).toNat :=
          range_map_congr fun i hi => by simp [rowGet, hi]
        simp only [cellsOf, Seg.cells, stCells, e, List.append_assoc, List.nil_append]
      · cases h
  · cases h

def putRow : List Seg → Nat → List Seg → Option (List Seg)
  | [], _, _ => none
  | g :: r, o, v => if o < g.len then (g.putRow o v).map (· :: r) else (putRow r (o - g.len) v).map (g :: ·)

theorem putRow_spec {ρ : Nat → Addr} : ∀ {l l' : List Seg} {o : Nat} {v : List Seg}, putRow l o v = some l' →
    ∃ x y z : List Value, cellsOf ρ l = x ++ (y ++ z) ∧ cellsOf ρ l' = x ++ (cellsOf ρ v ++ z) ∧ x.length = o ∧ y.length = (cellsOf ρ v).length ∧ (∀ A, segsInA A l → segsInA A l')
  | [], l', o, v, h => by simp [putRow] at h
  | g :: r, l', o, v, h => by
    simp only [putRow] at h
    split at h
    · obtain ⟨g', hg, rfl⟩ := Option.map_eq_some_iff.1 h
      obtain ⟨x, y, z, h1, h2, h3, h4, h5⟩ := Seg.putRow_spec (ρ := ρ) hg
      refine ⟨x, y, z ++ cellsOf ρ r, by simp [cellsOf, h1], by simp [cellsOf, h2], h3, h4, fun A hA t ht => ?_⟩
      rcases List.mem_cons.1 ht with rfl | ht
      · exact h5 A
      · exact hA t (List.mem_cons_of_mem _ ht)
    · obtain ⟨r', hr, rfl⟩ := Option.map_eq_some_iff.1 h
      obtain ⟨x, y, z, h1, h2, h3, h4, h5⟩ := putRow_spec (ρ := ρ) hr
      refine ⟨g.cells ρ ++ x, y, z, by simp [cellsOf, h1], by simp [cellsOf, h2], by simp [Seg.cells_length, h3]; omega, h4, fun A hA t ht => ?_⟩
      rcases List.mem_cons.1 ht with rfl | ht
      · exact hA _ (by simp)
      · exact h5 A (fun y hy => hA y (List.mem_cons_of_mem _ hy)) t ht

/-- The block behind a store. -/
def storeB (a : XA) (v : V) (b : Blk) : Option (List Prop × Blk) :=
  if b.own then
    match a.dyn, v with
    | none, .sc x => (wr b.segs a.off x).map fun l => ([], { b with segs := l })
    | some d, .sc x => (wrDyn b.segs a.off d x).map fun (p, l) => ([p], { b with segs := l })
    | none, .agg y =>
      match putRow b.segs a.off y with
      | some l => some ([], { b with segs := l })
      | none => match split b.segs a.off with
        | some (x, r) => match split r (segsLen y) with
          | some (_, z) => some ([], { b with segs := x ++ (y ++ z) })
          | none => none
        | none => none
    | _, _ => none
  else none

section
variable {P : Program} {ρ : Nat → Addr} {A : Nat → Prop} {hp : Hp} {w : World}

theorem V.cells_sc (x : SC) : (x.enc ρ).cells = #[x.enc ρ] := by cases x <;> rfl

theorem storeB_spec (hs : HSim ρ A hp w) {t : TypeId} {d : TypeDesc} (ht : P.underlying t = some d) {a : XA} {b b' : Blk} (hb : hp a.id = some b) {ns : List Prop} {v : V} (h : storeB a v b = some (ns, b')) (hn : ∀ p ∈ ns, p)
    (hv : v.inA A) (hsz : (v.enc ρ).cells.size = P.cellsOf t) :
    ∃ w', (storeVar t (a.enc ρ) (v.enc ρ)).run P w = .ok () w' ∧ HSim ρ A (upd hp a.id (some b')) w' ∧ Fr (fun k => k = (ρ a.id).block) w w' := by
  unfold storeB at h
  split at h
  case isFalse => cases h
  rename_i ho
  have key : ∀ (l : List Seg) (run : Result Unit), (∃ rest : List Value, rest.length = b.extra ∧ run = .ok () (World.putBlk w (ρ a.id).block (.cells (cellsOf ρ l ++ rest).toArray b.ty (0, 0)))) → segsInA A l →
      b' = { b with segs := l } → ∃ w', run = .ok () w' ∧ HSim ρ A (upd hp a.id (some b')) w' ∧ Fr (fun k => k = (ρ a.id).block) w w' := by
    rintro l run ⟨rest, hr, rfl⟩ hl rfl
    obtain ⟨_, _, _, hblk⟩ := hs.own _ _ hb ho
    exact ⟨_, rfl, hs.put hb ho hl hr, Fr.putBlk hblk⟩
  unfold storeVar
  simp only [Sem.run_bind, run_size ht, Result.andThen_ok, ne_eq, hsz, not_true, if_false]
  split at h
  · rename_i x hd
    simp only [XA.enc, XA.o, hd, V.enc] at *
    rw [V.cells_sc]
    simp only [storeCells, Sem.run_bind, Addr.add_zero]
    cases hw : wr b.segs a.off x with
    | none => simp [hw] at h
    | some l =>
      simp only [hw, Option.map_some, Option.some.injEq, Prod.mk.injEq] at h
      obtain ⟨rfl, rfl⟩ := h
      obtain ⟨e1, e2⟩ := wr_spec ρ hw
      obtain ⟨rest, hr, e3⟩ := hs.storeCell (P := P) hb ho e1 e2
      refine key l _ ⟨rest, hr, ?_⟩ (wr_inA hw (hs.inA _ _ hb) hv) rfl
      rw [e3]; rfl
  · rename_i dd x hd
    simp only [XA.enc, XA.o, hd, V.enc] at *
    rw [V.cells_sc]
    simp only [storeCells, Sem.run_bind, Addr.add_zero]
    cases hw : wrDyn b.segs a.off dd x with
    | none => simp [hw] at h
    | some q =>
      obtain ⟨p, l⟩ := q
      simp only [hw, Option.map_some, Option.some.injEq, Prod.mk.injEq] at h
      obtain ⟨rfl, rfl⟩ := h
      obtain ⟨e1, e2, e3⟩ := wrDyn_spec (ρ := ρ) hw (hn p (by simp))
      obtain ⟨rest, hr, e4⟩ := hs.storeCell (P := P) hb ho e1 e2
      refine key l _ ⟨rest, hr, ?_⟩ (e3 A (hs.inA _ _ hb)) rfl
      rw [e4]; rfl
  · rename_i y hd
    simp only [XA.enc, XA.o, hd, V.enc, Value.cells] at *
    split at h
    · rename_i l hl
      simp only [Option.some.injEq, Prod.mk.injEq] at h
      obtain ⟨rfl, rfl⟩ := h
      obtain ⟨x, y', z, h1, h2, h3, h4, h5⟩ := putRow_spec (ρ := ρ) hl
      obtain ⟨g1, rest, hr, g2⟩ := hs.own _ b hb ho
      refine key l _ ⟨rest, hr, ?_⟩ (h5 A (hs.inA _ _ hb)) rfl
      rw [h1, List.append_assoc, List.append_assoc] at g2
      rw [own_add g1, run_storeCells (ρ a.id).block b.ty (cellsOf ρ y) x (y' ++ (z ++ rest)) w a.off 0 (cellsOf_one y) g2 (by omega) (by simp; omega), h2]
      rw [List.drop_append_of_le_length (by omega), List.drop_of_length_le (by omega)]
      simp
    · split at h
      · rename_i x r hx
        split at h
        · rename_i y' z hy
          simp only [Option.some.injEq, Prod.mk.injEq] at h
          obtain ⟨rfl, rfl⟩ := h
          have e1 := split_spec ρ hx
          have e2 := split_spec ρ hy
          have i1 := split_inA hx (hs.inA _ _ hb)
          have i2 := split_inA hy i1.2
          refine key (x ++ (y ++ z)) _ (hs.storeCells hb ho (by rw [e1.1, e2.1]) e1.2 e2.2) ?_ rfl
          intro g hg
          simp only [List.mem_append] at hg
          rcases hg with hg | hg | hg
          · exact i1.1 g hg
          · exact hv g hg
          · exact i2.2 g hg
        · cases h
      · cases h
  · cases h
end
end Go.X
