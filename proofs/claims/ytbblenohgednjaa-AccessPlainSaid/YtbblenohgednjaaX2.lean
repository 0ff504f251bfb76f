import Derived.Test.YtbblenohgednjaaX1
/- A part of the walking machine: shown once for every program of the model; no condition of its own. -/
/- Memory: what a heap of small numbers says of the world; loads, stores, new blocks. -/
namespace Go.X

theorem Addr.add_add (a : Addr) (m n : Nat) : (a.add m).add n = a.add (m + n) := by
  unfold Addr.add
  by_cases hm : m = 0
  · subst hm; simp
  · by_cases hn : n = 0
    · subst hn; simp [hm]
    · have : m + n ≠ 0 := by omega
      simp [hm, hn, this]; omega

theorem Addr.add_zero (a : Addr) : a.add 0 = a := by simp [Addr.add]
theorem Addr.add_block (a : Addr) (n : Nat) : (a.add n).block = a.block := by unfold Addr.add; split <;> rfl

/-- A block: its cells; how many more there are of which nothing is known; its elements' type; whether it is the heap's own (else: read alone). -/
structure Blk where
  segs : List Seg
  extra : Nat
  ty : TypeId
  own : Bool

abbrev Hp := Nat → Option Blk

structure HSim (ρ : Nat → Addr) (A : Nat → Prop) (hp : Hp) (w : World) : Prop where
  own : ∀ id b, hp id = some b → b.own = true → ρ id = ⟨(ρ id).block, 0, none⟩ ∧ ∃ rest : List Value, rest.length = b.extra ∧ w.heap[(ρ id).block]? = some (.cells (cellsOf ρ b.segs ++ rest).toArray b.ty (0, 0))
  view : ∀ id b, hp id = some b → b.own = false → ∀ j v, (cellsOf ρ b.segs)[j]? = some v → w.cell? ((ρ id).add j) = some v
  inj : ∀ id b id' b', hp id = some b → b.own = true → hp id' = some b' → (b'.own = true ∨ segsLen b'.segs ≠ 0) → id ≠ id' → (ρ id).block ≠ (ρ id').block
  dom : ∀ id b, hp id = some b → A id
  inA : ∀ id b, hp id = some b → segsInA A b.segs

/-- Nothing has turned but the blocks of D; new ones may have come. -/
structure Fr (D : Nat → Prop) (w w' : World) : Prop where
  os : w'.os = w.os
  tape : w'.tape = w.tape
  output : w'.output = w.output
  size : w.heap.size ≤ w'.heap.size
  block : ∀ k, k < w.heap.size → ¬ D k → w'.heap[k]? = w.heap[k]?
  fz : ∀ a, w'.frozen? a = w.frozen? a

theorem Fr.refl (D : Nat → Prop) (w : World) : Fr D w w := ⟨rfl, rfl, rfl, Nat.le_refl _, fun _ _ _ => rfl, fun _ => rfl⟩
theorem Fr.trans {D : Nat → Prop} {a b c : World} (h : Fr D a b) (k : Fr D b c) : Fr D a c :=
  ⟨k.os.trans h.os, k.tape.trans h.tape, k.output.trans h.output, Nat.le_trans h.size k.size,
    fun i hi hD => (k.block i (Nat.lt_of_lt_of_le hi h.size) hD).trans (h.block i hi hD), fun a => (k.fz a).trans (h.fz a)⟩
theorem Fr.mono {D D' : Nat → Prop} {a b : World} (h : Fr D a b) (hD : ∀ k, k < a.heap.size → D k → D' k) : Fr D' a b :=
  ⟨h.os, h.tape, h.output, h.size, fun k hk hn => h.block k hk fun hd => hn (hD k hk hd), h.fz⟩
/-- Two steps, the second of which may touch what is new. -/
theorem Fr.trans' {D D' : Nat → Prop} {a b c : World} (h : Fr D a b) (k : Fr D' b c) (hD : ∀ i, i < a.heap.size → D' i → D i) : Fr D a c :=
  ⟨k.os.trans h.os, k.tape.trans h.tape, k.output.trans h.output, Nat.le_trans h.size k.size,
    fun i hi hn => (k.block i (Nat.lt_of_lt_of_le hi h.size) fun hd => hn (hD i hi hd)).trans (h.block i hi hn), fun a => (k.fz a).trans (h.fz a)⟩

theorem cell?_of_block {w : World} {b : Nat} {cs : Array Value} {ty : TypeId} {z : Nat × Nat} (h : w.heap[b]? = some (.cells cs ty z)) (o : Nat) : w.cell? ⟨b, o, none⟩ = cs[o]? := by
  simp [World.cell?, h]

theorem frozen?_of_block {w : World} {b : Nat} {cs : Array Value} {ty : TypeId} (h : w.heap[b]? = some (.cells cs ty (0, 0))) (o : Nat) : w.frozen? ⟨b, o, none⟩ = false := by
  simp [World.frozen?, h]

theorem cell?_congr {w w' : World} {a : Addr} (h : w'.heap[a.block]? = w.heap[a.block]?) : w'.cell? a = w.cell? a := by
  simp [World.cell?, h]

theorem cell?_some_lt {w : World} {a : Addr} {v : Value} (h : w.cell? a = some v) : a.block < w.heap.size := by
  rcases Nat.lt_or_ge a.block w.heap.size with h' | h'
  · exact h'
  · simp [World.cell?, Array.getElem?_eq_none h'] at h

theorem own_add {ρ : Nat → Addr} {id : Nat} (h : ρ id = ⟨(ρ id).block, 0, none⟩) (o : Nat) : (ρ id).add o = ⟨(ρ id).block, o, none⟩ := by
  rw [h]; unfold Addr.add; split
  · rename_i e; subst e; rfl
  · simp

theorem HSim.cell {ρ : Nat → Addr} {A : Nat → Prop} {hp : Hp} {w : World} (hs : HSim ρ A hp w) {id : Nat} {b : Blk} (hb : hp id = some b) {o : Nat} {v : Value}
    (hv : (cellsOf ρ b.segs)[o]? = some v) : w.cell? ((ρ id).add o) = some v := by
  cases ho : b.own with
  | true =>
    obtain ⟨h1, rest, _, h2⟩ := hs.own id b hb ho
    rw [own_add h1, cell?_of_block h2, List.getElem?_toArray, List.getElem?_append_left (List.getElem?_eq_some_iff.1 hv).1]
    exact hv
  | false => exact hs.view id b hb ho o v hv

theorem HSim.dom_lt {ρ : Nat → Addr} {A : Nat → Prop} {hp : Hp} {w : World} (hs : HSim ρ A hp w) {id : Nat} {b : Blk} (hb : hp id = some b) (hn : b.own = true ∨ segsLen b.segs ≠ 0) : (ρ id).block < w.heap.size := by
  cases ho : b.own with
  | true =>
    obtain ⟨h1, rest, _, h2⟩ := hs.own id b hb ho
    exact (Array.getElem?_eq_some_iff.1 h2).1
  | false =>
    rcases hn with hn | hn
    · rw [ho] at hn; cases hn
    · have hl : 0 < (cellsOf ρ b.segs).length := by rw [cellsOf_length]; omega
      have := hs.view id b hb ho 0 _ (List.getElem?_eq_getElem hl)
      rw [Addr.add_zero] at this
      exact cell?_some_lt this

/-- What another world shows, if nothing of the heap's blocks has turned. -/
theorem HSim.frame {ρ : Nat → Addr} {A : Nat → Prop} {hp : Hp} {w w' : World} (hs : HSim ρ A hp w) {D : Nat → Prop} (hf : Fr D w w')
    (hD : ∀ id b, hp id = some b → ¬ D (ρ id).block) : HSim ρ A hp w' where
  own id b hb ho := by
    obtain ⟨h1, rest, hr, h2⟩ := hs.own id b hb ho
    refine ⟨h1, rest, hr, ?_⟩
    rw [hf.block _ (Array.getElem?_eq_some_iff.1 h2).1 (hD id b hb)]
    exact h2
  view id b hb ho j v hv := by
    have := hs.view id b hb ho j v hv
    rw [cell?_congr (w := w)]
    · exact this
    · have hlt := cell?_some_lt this
      rw [Addr.add_block] at *
      exact hf.block _ hlt (hD id b hb)
  inj := hs.inj
  dom := hs.dom
  inA := hs.inA

def World.putBlk (w : World) (b : Nat) (o : Obj) : World := { w with heap := w.heap.setIfInBounds b o }

theorem putBlk_same {w : World} {b : Nat} {o : Obj} (h : b < w.heap.size) : (World.putBlk w b o).heap[b]? = some o := by
  simp [World.putBlk, h]
theorem putBlk_ne {w : World} {b k : Nat} {o : Obj} (h : b ≠ k) : (World.putBlk w b o).heap[k]? = w.heap[k]? := by
  simp [World.putBlk, Array.getElem?_setIfInBounds_ne h]
theorem putBlk_size {w : World} {b : Nat} {o : Obj} : (World.putBlk w b o).heap.size = w.heap.size := by simp [World.putBlk]
theorem putBlk_putBlk {w : World} {b : Nat} {o o' : Obj} : World.putBlk (World.putBlk w b o) b o' = World.putBlk w b o' := by
  simp [World.putBlk]
theorem putBlk_self {w : World} {b : Nat} {o : Obj} (h : w.heap[b]? = some o) : World.putBlk w b o = w := by
  obtain ⟨hlt, he⟩ := Array.getElem?_eq_some_iff.1 h
  have : w.heap.setIfInBounds b o = w.heap := by
    rw [← he]
    apply Array.ext
    · simp
    · intro i h1 h2
      simp only [Array.size_setIfInBounds] at h1
      rw [Array.getElem_setIfInBounds h1]
      split
      · rename_i e; subst e; rfl
      · rfl
  simp [World.putBlk, this]

theorem Fr.putBlk {w : World} {b : Nat} {cs cs' : Array Value} {ty ty' : TypeId} (h : w.heap[b]? = some (.cells cs ty (0, 0))) : Fr (fun k => k = b) w (World.putBlk w b (.cells cs' ty' (0, 0))) :=
  ⟨rfl, rfl, rfl, by rw [putBlk_size]; exact Nat.le_refl _, fun k _ hn => putBlk_ne fun e => hn e.symm, fun a => by
    by_cases e : b = a.block
    · subst e
      have hlt := (Array.getElem?_eq_some_iff.1 h).1
      simp [World.frozen?, h, putBlk_same hlt]
    · simp [World.frozen?, putBlk_ne e]⟩

theorem setCell_eq {w : World} {b o : Nat} {cs : Array Value} {ty : TypeId} {z : Nat × Nat} (h : w.heap[b]? = some (.cells cs ty z)) (v : Value) :
    w.setCell ⟨b, o, none⟩ v = World.putBlk w b (.cells (cs.setIfInBounds o v) ty z) := by
  obtain ⟨hlt, he⟩ := Array.getElem?_eq_some_iff.1 h
  simp only [World.setCell, World.putBlk]
  congr 1
  apply Array.ext
  · simp
  · intro i h1 h2
    simp only [Array.size_modify] at h1
    rw [Array.getElem_modify, Array.getElem_setIfInBounds h1]
    by_cases e : b = i
    · subst e; simp [he]
    · simp [e]

/-- A block of the heap written anew. -/
theorem HSim.put {ρ : Nat → Addr} {A : Nat → Prop} {hp : Hp} {w : World} (hs : HSim ρ A hp w) {id : Nat} {b : Blk} (hb : hp id = some b) (ho : b.own = true) {segs : List Seg} (hA : segsInA A segs)
    {rest : List Value} {extra : Nat} (hr : rest.length = extra) :
    HSim ρ A (upd hp id (some { b with segs, extra })) (World.putBlk w (ρ id).block (.cells (cellsOf ρ segs ++ rest).toArray b.ty (0, 0))) where
  own id' b' hb' ho' := by
    by_cases e : id' = id
    · subst e
      simp [upd] at hb'
      subst hb'
      obtain ⟨h1, _, _, h2⟩ := hs.own id' b hb ho
      exact ⟨h1, rest, hr, putBlk_same (Array.getElem?_eq_some_iff.1 h2).1⟩
    · simp [upd, e] at hb'
      obtain ⟨h1, rest', hr', h2⟩ := hs.own id' b' hb' ho'
      refine ⟨h1, rest', hr', ?_⟩
      rw [putBlk_ne (hs.inj id b id' b' hb ho hb' (.inl ho') (Ne.symm e))]
      exact h2
  view id' b' hb' ho' j v hv := by
    by_cases e : id' = id
    · subst e
      simp [upd] at hb'
      subst hb'
      simp at ho'
      rw [ho] at ho'; cases ho'
    · simp [upd, e] at hb'
      have h := hs.view id' b' hb' ho' j v hv
      rw [cell?_congr (w := w)]
      · exact h
      · rw [Addr.add_block]
        refine putBlk_ne (hs.inj id b id' b' hb ho hb' (.inr ?_) (Ne.symm e))
        intro h0
        have := (List.getElem?_eq_some_iff.1 hv).1
        rw [cellsOf_length] at this
        omega
  inj i bi j bj hi hoi hj hoj hne := by
    have key : ∀ i bi, upd hp id (some { b with segs := segs, extra := extra }) i = some bi → (bi.own = true ∨ segsLen bi.segs ≠ 0) → ∃ b', hp i = some b' ∧ (b'.own = true ∨ segsLen b'.segs ≠ 0) ∧ (bi.own = true → b'.own = true) := by
      intro i bi hi hoi
      by_cases e : i = id
      · subst e; simp [upd] at hi; subst hi
        exact ⟨b, hb, .inl ho, fun _ => ho⟩
      · simp [upd, e] at hi; exact ⟨bi, hi, hoi, fun h => h⟩
    obtain ⟨bi', h1, _, h3⟩ := key i bi hi (.inl hoi)
    obtain ⟨bj', h4, h5, _⟩ := key j bj hj hoj
    exact hs.inj i bi' j bj' h1 (h3 hoi) h4 h5 hne
  dom i bi hi := by
    by_cases e : i = id
    · subst e; exact hs.dom i b hb
    · simp [upd, e] at hi; exact hs.dom i bi hi
  inA i bi hi := by
    by_cases e : i = id
    · subst e; simp [upd] at hi; subst hi; exact hA
    · simp [upd, e] at hi; exact hs.inA i bi hi

def World.newBlk (w : World) (o : Obj) : World := { w with heap := w.heap.push o }

theorem newBlk_old {w : World} {o : Obj} {k : Nat} (h : k < w.heap.size) : (World.newBlk w o).heap[k]? = w.heap[k]? := by
  simp only [World.newBlk]
  rw [Array.getElem?_push, if_neg (by omega)]
theorem newBlk_new {w : World} {o : Obj} : (World.newBlk w o).heap[w.heap.size]? = some o := by
  simp [World.newBlk]
theorem Fr.newBlk (D : Nat → Prop) (w : World) (cs : Array Value) (ty : TypeId) : Fr D w (World.newBlk w (.cells cs ty (0, 0))) :=
  ⟨rfl, rfl, rfl, by simp [World.newBlk], fun k hk _ => newBlk_old hk, fun a => by
    rcases Nat.lt_trichotomy a.block w.heap.size with e | e | e
    · simp [World.frozen?, newBlk_old e]
    · have e1 : (World.newBlk w (.cells cs ty (0, 0))).heap[a.block]? = some (.cells cs ty (0, 0)) := by rw [e]; exact newBlk_new
      have e2 : w.heap[a.block]? = none := by rw [e]; simp
      simp [World.frozen?, e1, e2]
    · have e1 : (World.newBlk w (.cells cs ty (0, 0))).heap[a.block]? = none := by simp [World.newBlk]; omega
      have e2 : w.heap[a.block]? = none := by simp; omega
      simp [World.frozen?, e1, e2]⟩

/-- 'ρ'' is 'ρ' but for the numbers of one operation. -/
structure Ext (lo : Nat) (ρ : Nat → Addr) (A : Nat → Prop) (ρ' : Nat → Addr) (A' : Nat → Prop) : Prop where
  same : ∀ i, A i → ρ' i = ρ i
  grow : ∀ i, A i → A' i
  bound : ∀ i, A' i → A i ∨ (lo ≤ i ∧ i < lo + 32)

theorem Ext.refl (lo : Nat) (ρ : Nat → Addr) (A : Nat → Prop) : Ext lo ρ A ρ A := ⟨fun _ _ => rfl, fun _ h => h, fun _ h => .inl h⟩

/-- A new block under the number 'i'. -/
theorem HSim.new {ρ : Nat → Addr} {A : Nat → Prop} {hp : Hp} {w : World} (hs : HSim ρ A hp w) {i : Nat} (hi : ¬ A i) {segs : List Seg} {ty : TypeId} (hA : segsInA A segs) {rest : List Value} {extra : Nat} (hr : rest.length = extra) :
    HSim (fun j => if j = i then ⟨w.heap.size, 0, none⟩ else ρ j) (fun j => A j ∨ j = i) (upd hp i (some { segs, extra, ty, own := true }))
      (World.newBlk w (.cells (cellsOf ρ segs ++ rest).toArray ty (0, 0))) := by
  have hρ : ∀ j, A j → (fun j => if j = i then (⟨w.heap.size, 0, none⟩ : Addr) else ρ j) j = ρ j := by
    intro j hj
    have : j ≠ i := fun e => hi (e ▸ hj)
    simp [this]
  have hold : ∀ j b, j ≠ i → upd hp i (some { segs, extra, ty, own := true }) j = some b → hp j = some b := by
    intro j b hj h; simpa [upd, hj] using h
  have hnew : ∀ b, upd hp i (some { segs, extra, ty, own := true }) i = some b → b = { segs, extra, ty, own := true } := by
    intro b h; simp [upd] at h; exact h.symm
  refine ⟨?_, ?_, ?_, ?_, ?_⟩
  · intro j b hb ho
    by_cases e : j = i
    · subst e
      obtain rfl := hnew b hb
      simp only [if_true]
      refine ⟨trivial, rest, hr, ?_⟩
      rw [newBlk_new, cellsOf_congr hρ hA]
    · have hb' := hold j b e hb
      obtain ⟨h1, rest', hr', h2⟩ := hs.own j b hb' ho
      simp only [if_neg e]
      refine ⟨h1, rest', hr', ?_⟩
      rw [newBlk_old (Array.getElem?_eq_some_iff.1 h2).1, cellsOf_congr hρ (hs.inA j b hb')]
      exact h2
  · intro j b hb ho k v hv
    by_cases e : j = i
    · subst e
      obtain rfl := hnew b hb
      cases ho
    · have hb' := hold j b e hb
      rw [cellsOf_congr hρ (hs.inA j b hb')] at hv
      have h := hs.view j b hb' ho k v hv
      simp only [if_neg e]
      rw [cell?_congr (w := w)]
      · exact h
      · rw [Addr.add_block]
        have := cell?_some_lt h
        rw [Addr.add_block] at this
        exact newBlk_old this
  · intro j b j' b' hb ho hb' ho' hne
    by_cases e : j = i
    · subst e
      have hb'' := hold j' b' (Ne.symm hne) hb'
      have := hs.dom_lt hb'' ho'
      have e' : ¬ j' = j := Ne.symm hne
      simp only [if_true, if_neg e']
      omega
    · have hb1 := hold j b e hb
      by_cases e' : j' = i
      · subst e'
        have := hs.dom_lt hb1 (.inl ho)
        simp only [if_true, if_neg e]
        omega
      · simp only [if_neg e, if_neg e']
        exact hs.inj j b j' b' hb1 ho (hold j' b' e' hb') ho' hne
  · intro j b hb
    by_cases e : j = i
    · exact .inr e
    · exact .inl (hs.dom j b (hold j b e hb))
  · intro j b hb
    by_cases e : j = i
    · subst e
      obtain rfl := hnew b hb
      exact segsInA_mono (fun _ h => .inl h) hA
    · exact segsInA_mono (fun _ h => .inl h) (hs.inA j b (hold j b e hb))

/-- A block given up. -/
theorem HSim.drop {ρ : Nat → Addr} {A : Nat → Prop} {hp hp' : Hp} {w : World} (hs : HSim ρ A hp w) (h : ∀ id b, hp' id = some b → hp id = some b) : HSim ρ A hp' w :=
  ⟨fun id b hb => hs.own id b (h id b hb), fun id b hb => hs.view id b (h id b hb), fun id b id' b' hb ho hb' => hs.inj id b id' b' (h id b hb) ho (h id' b' hb'),
    fun id b hb => hs.dom id b (h id b hb), fun id b hb => hs.inA id b (h id b hb)⟩

/-! ### Runs -/
section
variable {P : Program} {ρ : Nat → Addr} {A : Nat → Prop} {hp : Hp} {w : World}

theorem run_load_of {a : Addr} {v : Value} (h : w.cell? a = some v) : (load a).run P w = .ok v w := by simp [h]

theorem run_loadCellsFrom (l : List Value) : ∀ (a : Addr) (i : Nat) (acc : Array Value), (∀ j v, l[j]? = some v → w.cell? (a.add (i + j)) = some v) →
    (loadCellsFrom a i l.length acc).run P w = .ok (acc ++ l.toArray) w := by
  induction l with
  | nil => intro a i acc _; simp [loadCellsFrom]
  | cons v l ih =>
    intro a i acc h
    have h0 := h 0 v rfl
    simp only [List.length_cons, loadCellsFrom, Sem.run_bind]
    rw [run_load_of (by simpa using h0)]
    simp only [Result.andThen_ok]
    rw [ih a (i + 1) (acc.push v) (fun j u hj => by have := h (j + 1) u (by simpa using hj); rwa [show i + 1 + j = i + (j + 1) by omega])]
    simp

theorem HSim.loadCells (hs : HSim ρ A hp w) {id : Nat} {b : Blk} (hb : hp id = some b) {o n : Nat} {x y z : List Seg} (h : cellsOf ρ b.segs = cellsOf ρ x ++ (cellsOf ρ y ++ cellsOf ρ z))
    (hx : segsLen x = o) (hy : segsLen y = n) : (loadCells ((ρ id).add o) n).run P w = .ok (cellsOf ρ y).toArray w := by
  have := run_loadCellsFrom (P := P) (w := w) (cellsOf ρ y) ((ρ id).add o) 0 #[] (fun j v hj => by
    rw [Addr.add_add, Nat.zero_add]
    refine hs.cell hb ?_
    rw [h, List.getElem?_append_right (by rw [cellsOf_length]; omega), cellsOf_length, hx, Nat.add_sub_cancel_left, List.getElem?_append_left (List.getElem?_eq_some_iff.1 hj).1]
    exact hj)
  rw [cellsOf_length, hy] at this
  simpa [Go.loadCells] using this

theorem SC.enc_one (v : SC) : (v.enc ρ).oneCell' = true := by cases v <;> rfl

theorem Seg.cells_one (g : Seg) : ∀ v ∈ g.cells ρ, v.oneCell' = true := by
  cases g with
  | one v => intro u hu; simp [Seg.cells] at hu; subst hu; exact SC.enc_one v
  | st s =>
    intro u hu
    simp only [Seg.cells, stCells, List.mem_append, List.mem_map, List.mem_cons, List.not_mem_nil, or_false] at hu
    rcases hu with ((⟨i, _, rfl⟩ | rfl | rfl | rfl) | ⟨i, _, rfl⟩) | rfl <;> rfl
  | u64s s n f | u8s s n f | ints k s n f | bools s n f =>
    intro u hu
    simp only [Seg.cells, List.mem_map] at hu
    obtain ⟨i, _, rfl⟩ := hu
    rfl
  | recs n sz g =>
    intro u hu
    simp only [Seg.cells, List.mem_map] at hu
    obtain ⟨i, _, rfl⟩ := hu
    exact SC.enc_one _

theorem cellsOf_one (l : List Seg) : ∀ v ∈ cellsOf ρ l, v.oneCell' = true := by
  induction l with
  | nil => intro v hv; simp [cellsOf] at hv
  | cons g r ih =>
    intro v hv
    simp only [cellsOf, List.mem_append] at hv
    rcases hv with hv | hv
    · exact Seg.cells_one g v hv
    · exact ih v hv

theorem run_storeCells (b : Nat) (ty : TypeId) : ∀ (l pre mid : List Value) (w : World) (o i : Nat), (∀ v ∈ l, v.oneCell' = true) → w.heap[b]? = some (.cells (pre ++ mid).toArray ty (0, 0)) → pre.length = o + i → l.length ≤ mid.length →
    (storeCells ⟨b, o, none⟩ l i).run P w = .ok () (World.putBlk w b (.cells (pre ++ (l ++ mid.drop l.length)).toArray ty (0, 0))) := by
  intro l
  induction l with
  | nil =>
    intro pre mid w o i _ hb _ _
    simp only [storeCells, Sem.run_pure, List.length_nil, List.drop_zero, List.nil_append]
    rw [putBlk_self hb]
  | cons v l ih =>
    intro pre mid w o i hl hb hp hle
    have hlt : (o + i) < (pre ++ mid).length := by simp at hle ⊢; omega
    have ha : (⟨b, o, none⟩ : Addr).add i = ⟨b, o + i, none⟩ := by unfold Addr.add; split <;> simp_all
    have hc : w.cell? ⟨b, o + i, none⟩ = some ((pre ++ mid)[o + i]) := by rw [cell?_of_block hb]; simp [hlt]
    have hf : w.frozen? ⟨b, o + i, none⟩ = false := frozen?_of_block hb _
    simp only [storeCells, Sem.run_bind, ha]
    rw [run_store _ _ _ _ _ (hl v (by simp))]
    simp only [hc, hf, Bool.false_eq_true, if_false, Result.andThen_ok]
    rw [setCell_eq hb]
    cases mid with
    | nil => simp at hle
    | cons m mid =>
      have e : ((pre ++ m :: mid).toArray.setIfInBounds (o + i) v) = ((pre ++ [v]) ++ mid).toArray := by
        simp [← hp]
      rw [e, ih (pre ++ [v]) mid _ o (i + 1) (fun u hu => hl u (by simp [hu])) (putBlk_same (Array.getElem?_eq_some_iff.1 hb).1) (by simp; omega) (by simpa using hle), putBlk_putBlk]
      simp

theorem HSim.storeCells (hs : HSim ρ A hp w) {id : Nat} {b : Blk} (hb : hp id = some b) (ho : b.own = true) {o : Nat} {x y z v : List Seg} (h : cellsOf ρ b.segs = cellsOf ρ x ++ (cellsOf ρ y ++ cellsOf ρ z))
    (hx : segsLen x = o) (hy : segsLen y = segsLen v) : ∃ rest : List Value, rest.length = b.extra ∧
      (storeCells ((ρ id).add o) (cellsOf ρ v)).run P w = .ok () (World.putBlk w (ρ id).block (.cells (cellsOf ρ (x ++ (v ++ z)) ++ rest).toArray b.ty (0, 0))) := by
  obtain ⟨h1, rest, hr, h2⟩ := hs.own id b hb ho
  refine ⟨rest, hr, ?_⟩
  rw [h, List.append_assoc, List.append_assoc] at h2
  rw [own_add h1, run_storeCells (ρ id).block b.ty (cellsOf ρ v) (cellsOf ρ x) (cellsOf ρ y ++ (cellsOf ρ z ++ rest)) w o 0 (cellsOf_one v) h2 (by rw [cellsOf_length]; omega) (by simp [cellsOf_length]; omega)]
  rw [cellsOf_append, cellsOf_append, List.drop_append_of_le_length (by simp [cellsOf_length]; omega), List.drop_of_length_le (by simp [cellsOf_length]; omega)]
  simp

theorem HSim.storeCell (hs : HSim ρ A hp w) {id : Nat} {b : Blk} (hb : hp id = some b) (ho : b.own = true) {o : Nat} {v : SC} {l' : List Seg} (h : cellsOf ρ l' = (cellsOf ρ b.segs).set o (v.enc ρ)) (hl : o < segsLen b.segs) :
    ∃ rest : List Value, rest.length = b.extra ∧
    (Go.store ((ρ id).add o) (v.enc ρ)).run P w = .ok () (World.putBlk w (ρ id).block (.cells (cellsOf ρ l' ++ rest).toArray b.ty (0, 0))) := by
  obtain ⟨h1, rest, hr, h2⟩ := hs.own id b hb ho
  refine ⟨rest, hr, ?_⟩
  have hlt : o < (cellsOf ρ b.segs).length := by rw [cellsOf_length]; exact hl
  rw [own_add h1, run_store _ _ _ _ _ (SC.enc_one v), cell?_of_block h2, frozen?_of_block h2]
  simp only [List.getElem?_toArray, List.getElem?_append_left hlt, List.getElem?_eq_getElem hlt, Bool.false_eq_true, if_false]
  rw [setCell_eq h2, h]
  simp [List.set_append_left _ _ hlt]
end

end Go.X
