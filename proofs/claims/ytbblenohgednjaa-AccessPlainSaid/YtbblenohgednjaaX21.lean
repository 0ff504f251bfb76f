import Derived.Test.YtbblenohgednjaaX20
/- A part of the walking machine: shown once for every program of the model; no condition of its own. -/
/- Functions that write: what they are given, under their own numbers. -/
namespace Go.X

def hpB (l : List Blk) : Hp := fun j => l[j]?

def blksLt (m : Nat) : List Blk → Bool
  | [] => true
  | b :: r => segsLt m b.segs && blksLt m r

theorem blksLt_get {m : Nat} : ∀ {l : List Blk} {j : Nat} {b : Blk}, blksLt m l = true → l[j]? = some b → segsLt m b.segs = true
  | [], j, g, _, h => by simp at h
  | x :: r, j, g, hl, h => by
    simp only [blksLt, Bool.and_eq_true] at hl
    cases j with
    | zero => simp at h; subst h; exact hl.1
    | succ j => exact blksLt_get hl.2 (by simpa using h)

/-- A caller's blocks: those that may be written are there whole, the others show at least these cells. -/
structure Gives (hp : Hp) (idx : List Nat) (l : List Blk) : Prop where
  blk : ∀ j c, l[j]? = some c → ∃ b, hp (idx.getD j 0) = some b ∧
    (∀ ρ : Nat → Addr, ∀ (k : Nat) (v : Value), (cellsOf (fun i => ρ (idx.getD i 0)) c.segs)[k]? = some v → (cellsOf ρ b.segs)[k]? = some v) ∧
    (c.own = true → b.own = true ∧ b.extra = c.extra ∧ b.ty = c.ty ∧ ∀ ρ : Nat → Addr, cellsOf (fun i => ρ (idx.getD i 0)) c.segs = cellsOf ρ b.segs)
  twin : ∀ j k c c', l[j]? = some c → c.own = true → l[k]? = some c' → j ≠ k → idx.getD j 0 ≠ idx.getD k 0

theorem gives_sim {ρ : Nat → Addr} {A : Nat → Prop} {hp : Hp} {w : World} (hs : HSim ρ A hp w) {idx : List Nat} {l : List Blk} (h : Gives hp idx l) (hlt : blksLt l.length l = true) :
    HSim (fun i => ρ (idx.getD i 0)) (fun i => i < l.length) (hpB l) w := by
  refine ⟨?_, ?_, ?_, ?_, ?_⟩
  · intro j c hc ho
    obtain ⟨b, hb, _, hown⟩ := h.blk j c hc
    obtain ⟨h1, h2, h3, h4⟩ := hown ho
    obtain ⟨e1, rest, hr, e2⟩ := hs.own _ b hb h1
    exact ⟨e1, rest, by rw [hr, h2], by rw [e2, h4 ρ, h3]⟩
  · intro j c hc _ k v hv
    obtain ⟨b, hb, hc', _⟩ := h.blk j c hc
    exact hs.cell hb (hc' ρ k v hv)
  · intro j c k c' hc ho hc' ho' hne
    obtain ⟨b, hb, _, hown⟩ := h.blk j c hc
    obtain ⟨b', hb', hcells, hown'⟩ := h.blk k c' hc'
    refine hs.inj _ b _ b' hb (hown ho).1 hb' ?_ (h.twin j k c c' hc ho hc' hne)
    rcases ho' with ho' | ho'
    · exact .inl (hown' ho').1
    · right
      have hl : 0 < (cellsOf (fun i => ρ (idx.getD i 0)) c'.segs).length := by rw [cellsOf_length]; omega
      have := hcells ρ 0 _ (List.getElem?_eq_getElem hl)
      have := (List.getElem?_eq_some_iff.1 this).1
      rw [cellsOf_length] at this
      omega
  · intro j c hc
    exact (List.getElem?_eq_some_iff.1 hc).1
  · intro j c hc
    exact segsLt_inA (fun _ h => h) (blksLt_get hlt hc)

/-! ### Which numbers an answer may bear -/
def SC.allId (p : Nat → Bool) : SC → Bool
  | .ptr a | .ptrIf _ a | .slc a _ _ _ => p a.id
  | _ => true
def Seg.allId (p : Nat → Bool) : Seg → Bool
  | .one v => v.allId p
  | .recs _ _ _ => false
  | _ => true
def segsAllId (p : Nat → Bool) : List Seg → Bool
  | [] => true
  | g :: r => g.allId p && segsAllId p r
def scsAllId (p : Nat → Bool) : List SC → Bool
  | [] => true
  | g :: r => g.allId p && scsAllId p r
def V.allId (p : Nat → Bool) : V → Bool
  | .sc v => v.allId p
  | .agg g => segsAllId p g
  | .fn _ a b => scsAllId p a && scsAllId p b
def vsAllId (p : Nat → Bool) : List V → Bool
  | [] => true
  | g :: r => g.allId p && vsAllId p r
def SV.allId (p : Nat → Bool) : SV → Bool
  | .ev v => v.allId p
  | .tup l => vsAllId p l
  | _ => false

section
variable {p : Nat → Bool}
theorem SC.allId_inA {v : SC} (h : v.allId p = true) : v.inA fun i => p i = true := by
  cases v <;> first | trivial | exact h
theorem Seg.allId_inA {v : Seg} (h : v.allId p = true) : v.inA fun i => p i = true := by
  cases v <;> first | trivial | exact SC.allId_inA h | cases h
theorem segsAllId_inA : ∀ {l : List Seg}, segsAllId p l = true → segsInA (fun i => p i = true) l
  | [], _ => fun g hg => by simp at hg
  | g :: r, h => by
    simp only [segsAllId, Bool.and_eq_true] at h
    have := segsAllId_inA h.2
    unfold segsInA at this ⊢
    simp only [List.forall_mem_cons]
    exact ⟨Seg.allId_inA h.1, this⟩
theorem scsAllId_inA : ∀ {l : List SC}, scsAllId p l = true → ∀ v ∈ l, v.inA fun i => p i = true
  | [], _ => fun g hg => by simp at hg
  | g :: r, h => by
    simp only [scsAllId, Bool.and_eq_true] at h
    simp only [List.forall_mem_cons]
    exact ⟨SC.allId_inA h.1, scsAllId_inA h.2⟩
theorem V.allId_inA {v : V} (h : v.allId p = true) : v.inA fun i => p i = true := by
  cases v with
  | sc v => exact SC.allId_inA h
  | agg g => exact segsAllId_inA h
  | fn f a b =>
    simp only [V.allId, Bool.and_eq_true] at h
    exact ⟨scsAllId_inA h.1, scsAllId_inA h.2⟩
theorem vsAllId_inA : ∀ {l : List V}, vsAllId p l = true → ∀ v ∈ l, v.inA fun i => p i = true
  | [], _ => fun g hg => by simp at hg
  | g :: r, h => by
    simp only [vsAllId, Bool.and_eq_true] at h
    simp only [List.forall_mem_cons]
    exact ⟨V.allId_inA h.1, vsAllId_inA h.2⟩

/-- An answer under other numbers. -/
theorem R_back {f : Nat → Nat} {ρ ρ' : Nat → Addr} {A A' : Nat → Prop} (hp : ∀ i, p i = true → A (f i) ∧ ρ (f i) = ρ' i) {x : SV} (h : x.allId p = true) {v : Value} (hr : R ρ' A' x v) : R ρ A (x.ren f) v := by
  have hc : ∀ i, (fun i => p i = true) i → (fun j => ρ (f j)) i = ρ' i := fun i hi => (hp i hi).2
  refine R_ren (B := fun i => p i = true) (fun j hj => (hp j hj).1) (fun g u e => by rw [e] at h; cases h) ?_
  cases x with
  | any => cases h
  | ev u => exact ⟨V.allId_inA h, by rw [hr.2]; exact (V.enc_congr hc (V.allId_inA h)).symm⟩
  | tup l =>
    refine ⟨vsAllId_inA h, ?_⟩
    rw [hr.2]
    congr 2
    exact List.map_congr_left fun u hu => (V.enc_congr hc (vsAllId_inA h u hu)).symm
  | grd g u => cases h

theorem cells_back {f : Nat → Nat} {ρ ρ' : Nat → Addr} (hp : ∀ i, p i = true → ρ (f i) = ρ' i) {l : List Seg} (h : segsAllId p l = true) : cellsOf ρ (segsRen f l) = cellsOf ρ' l := by
  rw [segsRen_cells]
  exact cellsOf_congr (A := fun i => p i = true) hp (segsAllId_inA h)
end

/-- The numbers turned back: those given, and the new ones one after the other. -/
def renOf (m : Nat) (idx nw : List Nat) (fid : Nat) (j : Nat) : Nat := if j < m then idx.getD j 0 else fid + nw.idxOf j
def okId (m : Nat) (nw : List Nat) (j : Nat) : Bool := decide (j < m) || nw.contains j
def Blk.ren (f : Nat → Nat) (b : Blk) : Blk := { b with segs := segsRen f b.segs }

/-- What a walk's end says to the caller: 'ow': which of the given blocks may have been written. -/
def outRes (m : Nat) (idx ow nw : List Nat) (fid : Nat) (x : S × SV) : Option Res :=
  match mapAll (fun j => match x.1.hp j with
      | some b => if segsAllId (okId m nw) b.segs && b.own then some (idx.getD j 0, some (b.ren (renOf m idx nw fid))) else none
      | none => some (idx.getD j 0, none)) ow,
    mapAll (fun i => match x.1.hp i with
      | some b => if segsAllId (okId m nw) b.segs && b.own then some (b.ren (renOf m idx nw fid)) else none
      | none => none) nw with
  | some wrs, some news => if x.2.allId (okId m nw) then some ⟨[], [], x.2.ren (renOf m idx nw fid), wrs, news⟩ else none
  | _, _ => none


theorem mapAll_mem {α β : Type} {f : α → Option β} : ∀ {l : List α} {r : List β}, mapAll f l = some r → ∀ y ∈ r, ∃ x ∈ l, f x = some y
  | [], r, h, y, hy => by simp [mapAll] at h; subst h; simp at hy
  | a :: l, r, h, y, hy => by
    simp only [mapAll] at h
    cases ha : f a with
    | none => simp [ha] at h
    | some b =>
      cases hl : mapAll f l with
      | none => simp [ha, hl] at h
      | some r' =>
        simp [ha, hl] at h
        subst h
        rcases List.mem_cons.1 hy with rfl | hy
        · exact ⟨a, by simp, ha⟩
        · obtain ⟨x, hx, e⟩ := mapAll_mem hl y hy
          exact ⟨x, by simp [hx], e⟩

/-- A heap after a row of writes, at one number. -/
theorem applyWrs_cases : ∀ (l : List (Nat × Option Blk)) (hp : Hp) (i : Nat), (i ∉ l.map (·.1) ∧ applyWrs hp l i = hp i) ∨ ∃ ob, (i, ob) ∈ l ∧ applyWrs hp l i = ob
  | [], hp, i => .inl ⟨by simp, rfl⟩
  | (j, b) :: r, hp, i => by
    simp only [applyWrs]
    rcases applyWrs_cases r (upd hp j b) i with ⟨h1, h2⟩ | ⟨ob, h1, h2⟩
    · by_cases e : i = j
      · subst e
        right
        exact ⟨b, by simp, by rw [h2]; simp [upd]⟩
      · left
        refine ⟨by simp [e]; simpa using h1, ?_⟩
        rw [h2]; simp [upd, e]
    · exact .inr ⟨ob, by simp [h1], h2⟩


def backR (ρ ρ' : Nat → Addr) (fid : Nat) (nw : List Nat) (i : Nat) : Addr := if fid ≤ i ∧ i < fid + nw.length then ρ' (nw.getD (i - fid) 0) else ρ i
def backA (A : Nat → Prop) (fid n : Nat) (i : Nat) : Prop := A i ∨ (fid ≤ i ∧ i < fid + n)

theorem back_ok {m : Nat} {idx nw : List Nat} {fid : Nat} {ρ ρ' : Nat → Addr} {A : Nat → Prop} (hA : ∀ j, j < m → A (idx.getD j 0)) (hex : ∀ j, j < m → ρ' j = ρ (idx.getD j 0)) (hnw : nw.length ≤ 32)
    (hfresh : ∀ j, fid ≤ j → j < fid + 32 → ¬ A j) : ∀ i, okId m nw i = true → backA A fid nw.length (renOf m idx nw fid i) ∧ backR ρ ρ' fid nw (renOf m idx nw fid i) = ρ' i := by
  intro i hi
  unfold renOf
  by_cases h : i < m
  · simp only [h, if_true]
    refine ⟨.inl (hA i h), ?_⟩
    unfold backR
    rw [if_neg, hex i h]
    rintro ⟨h1, h2⟩
    exact hfresh _ h1 (by omega) (hA i h)
  · simp only [h, if_false]
    simp only [okId, Bool.or_eq_true, decide_eq_true_eq, h, false_or, List.contains_iff_mem] at hi
    have hlt : nw.idxOf i < nw.length := List.idxOf_lt_length_of_mem hi
    refine ⟨.inr ⟨by omega, by omega⟩, ?_⟩
    unfold backR
    rw [if_pos ⟨by omega, by omega⟩, Nat.add_sub_cancel_left]
    congr 1
    simp [hlt]

theorem back_ext {fid : Nat} {nw : List Nat} {ρ ρ' : Nat → Addr} {A : Nat → Prop} (hnw : nw.length ≤ 32) (hfresh : ∀ j, fid ≤ j → j < fid + 32 → ¬ A j) : Ext fid ρ A (backR ρ ρ' fid nw) (backA A fid nw.length) where
  same i hi := by
    unfold backR
    rw [if_neg]
    rintro ⟨h1, h2⟩
    exact hfresh i h1 (by omega) hi
  grow i hi := .inl hi
  bound i hi := hi.imp id fun ⟨h1, h2⟩ => ⟨h1, by omega⟩


theorem newPairs_mem : ∀ {l : List Blk} {f i : Nat} {ob : Option Blk}, (i, ob) ∈ newPairs f l → ∃ k b, l[k]? = some b ∧ i = f + k ∧ ob = some b
  | [], f, i, ob, h => by simp [newPairs] at h
  | b :: r, f, i, ob, h => by
    simp only [newPairs, List.mem_cons, Prod.mk.injEq] at h
    rcases h with ⟨rfl, rfl⟩ | h
    · exact ⟨0, b, rfl, rfl, rfl⟩
    · obtain ⟨k, b', h1, h2, h3⟩ := newPairs_mem h
      exact ⟨k + 1, b', by simpa using h1, by omega, h3⟩

/-- Where a block of the heap behind a call comes from. -/
theorem src {m : Nat} {idx ow nw : List Nat} {fid : Nat} {x : S × SV} {r : Res} (hr : outRes m idx ow nw fid x = some r) (how : ∀ j ∈ ow, j < m) (hnw : nw.Nodup) (hge : ∀ t ∈ nw, m ≤ t) {hp : Hp} {i : Nat} {b : Blk} (h : applyRes hp fid r i = some b) :
    (∃ t b0, (t ∈ ow ∨ t ∈ nw) ∧ i = renOf m idx nw fid t ∧ x.1.hp t = some b0 ∧ segsAllId (okId m nw) b0.segs = true ∧ b0.own = true ∧ b = b0.ren (renOf m idx nw fid)) ∨
    (hp i = some b ∧ (∀ j ∈ ow, i ≠ idx.getD j 0) ∧ ¬ (fid ≤ i ∧ i < fid + nw.length)) := by
  unfold outRes at hr
  split at hr
  · rename_i wrs news hw hn
    split at hr
    · simp only [Option.some.injEq] at hr
      subst hr
      obtain ⟨n1, n2⟩ := mapAll_spec hn
      obtain ⟨w1, w2⟩ := mapAll_spec hw
      rw [applyRes_eq] at h
      rcases applyWrs_cases (wrs ++ newPairs fid news) hp i with ⟨h1, h2⟩ | ⟨ob, h1, h2⟩
      · right
        rw [h2] at h
        refine ⟨h, fun j hj e => h1 ?_, fun hin => h1 ?_⟩
        · obtain ⟨n, hn'⟩ := List.mem_iff_getElem?.1 hj
          obtain ⟨y, hy, e'⟩ := w2 n j hn'
          have : y.1 = idx.getD j 0 := by
            cases hb : x.1.hp j with
            | none => rw [hb] at e'; simp only [Option.some.injEq] at e'; rw [← e']
            | some b0 =>
              rw [hb] at e'
              simp only [] at e'
              split at e'
              · simp only [Option.some.injEq] at e'; rw [← e']
              · cases e'
          rw [e, ← this, List.map_append]
          exact List.mem_append.2 (.inl (List.mem_map.2 ⟨y, List.mem_of_getElem? hy, rfl⟩))
        · have hk : i - fid < news.length := by rw [n1]; omega
          have : ∀ (l : List Blk) (f k : Nat), k < l.length → f + k ∈ (newPairs f l).map (·.1) := by
            intro l
            induction l with
            | nil => intro f k h; simp at h
            | cons b r ih =>
              intro f k h
              cases k with
              | zero => simp [newPairs]
              | succ k =>
                have := ih (f + 1) k (by simpa using h)
                simp only [newPairs, List.map_cons, List.mem_cons]
                right
                rw [show f + (k + 1) = f + 1 + k by omega]
                exact this
          have h3 := this news fid (i - fid) hk
          rw [show fid + (i - fid) = i by omega] at h3
          rw [List.map_append]
          exact List.mem_append.2 (.inr h3)
      · left
        rw [h2] at h
        subst h
        rcases List.mem_append.1 h1 with hm | hm
        · obtain ⟨j, hj, e⟩ := mapAll_mem hw _ hm
          cases hb : x.1.hp j with
          | none => rw [hb] at e; simp at e
          | some b0 =>
            rw [hb] at e
            simp only [] at e
            split at e
            · rename_i hc
              simp only [Bool.and_eq_true] at hc
              simp only [Option.some.injEq, Prod.mk.injEq] at e
              refine ⟨j, b0, .inl hj, ?_, hb, hc.1, hc.2, e.2.symm⟩
              simp only [renOf, how j hj, if_true]; exact e.1.symm
            · cases e
        · obtain ⟨k, b1, e1, e2, e3⟩ := newPairs_mem hm
          simp only [Option.some.injEq] at e3
          subst e3
          have hk : k < nw.length := by rw [← n1]; exact (List.getElem?_eq_some_iff.1 e1).1
          obtain ⟨y, hy, e⟩ := n2 k nw[k] (List.getElem?_eq_getElem hk)
          rw [e1] at hy
          simp only [Option.some.injEq] at hy
          subst hy
          cases hb : x.1.hp nw[k] with
          | none => rw [hb] at e; simp at e
          | some b0 =>
            rw [hb] at e
            simp only [] at e
            split at e
            · rename_i hc
              simp only [Bool.and_eq_true] at hc
              simp only [Option.some.injEq] at e
              refine ⟨nw[k], b0, .inr (List.getElem_mem hk), ?_, hb, hc.1, hc.2, e.symm⟩
              have hn' : ¬ nw[k] < m := by have := hge _ (List.getElem_mem hk); omega
              have hio : nw.idxOf nw[k] = k := by
                have hlt : nw.idxOf nw[k] < nw.length := List.idxOf_lt_length_of_mem (List.getElem_mem hk)
                have hg : nw[nw.idxOf nw[k]] = nw[k] := by simp
                have hp := List.pairwise_iff_getElem.1 hnw
                rcases Nat.lt_trichotomy (nw.idxOf nw[k]) k with hl | hl | hl
                · exact absurd hg (hp _ _ hlt hk hl)
                · exact hl
                · exact absurd hg.symm (hp _ _ hk hlt hl)
              simp only [renOf, hn', if_false, hio]
              exact e2
            · cases e
    · cases hr
  · cases hr


theorem segsRen_len (f : Nat → Nat) (l : List Seg) : segsLen (segsRen f l) = segsLen l := by
  have := congrArg List.length (segsRen_cells (f := f) (ρ := fun _ => default) l)
  rw [cellsOf_length, cellsOf_length] at this
  exact this

theorem back_sim {ρ : Nat → Addr} {A : Nat → Prop} {hp : Hp} {w : World} (hs : HSim ρ A hp w) {idx : List Nat} {l : List Blk} (hg : Gives hp idx l) {ow nw : List Nat} {fid : Nat} (how : ∀ j ∈ ow, ∃ c, l[j]? = some c ∧ c.own = true)
    (hnw : nw.length ≤ 32) (hnd : nw.Nodup) (hge : ∀ t ∈ nw, l.length ≤ t) (hfresh : ∀ j, fid ≤ j → j < fid + 32 → ¬ A j) {x : S × SV} {r : Res} (hr : outRes l.length idx ow nw fid x = some r)
    {ρ' : Nat → Addr} {A' : Nat → Prop} {w' : World} (h1 : HSim ρ' A' x.1.hp w') (hfr : Fr (fun k => ∃ j, j ∈ ow ∧ k = (ρ (idx.getD j 0)).block) w w') (hex : ∀ i, i < l.length → ρ' i = ρ (idx.getD i 0))
    (hfp : ∀ i b, x.1.hp i = some b → b.own = true → (∃ j, j ∈ ow ∧ (ρ' i).block = (ρ (idx.getD j 0)).block) ∨ w.heap.size ≤ (ρ' i).block) :
    HSim (backR ρ ρ' fid nw) (backA A fid nw.length) (applyRes hp fid r) w' := by
  have hA : ∀ j, j < l.length → A (idx.getD j 0) := by
    intro j hj
    obtain ⟨b, hb, _⟩ := hg.blk j l[j] (List.getElem?_eq_getElem hj)
    exact hs.dom _ b hb
  have howlt : ∀ j ∈ ow, j < l.length := by
    intro j hj
    obtain ⟨c, hc, _⟩ := how j hj
    exact (List.getElem?_eq_some_iff.1 hc).1
  have hback := back_ok (m := l.length) (idx := idx) (nw := nw) (fid := fid) (ρ := ρ) (ρ' := ρ') (A := A) hA hex hnw hfresh
  have hext := back_ext (fid := fid) (nw := nw) (ρ := ρ) (ρ' := ρ') (A := A) hnw hfresh
  have hsrc := fun {i : Nat} {b : Blk} => src hr howlt hnd hge (hp := hp) (i := i) (b := b)
  have hok : ∀ t, (t ∈ ow ∨ t ∈ nw) → okId l.length nw t = true := by
    intro t ht
    simp only [okId, Bool.or_eq_true, decide_eq_true_eq, List.contains_iff_mem]
    exact ht.imp (howlt t) id
  -- a block of the caller's that was not given to be written lies elsewhere
  have hold : ∀ i b, hp i = some b → (b.own = true ∨ segsLen b.segs ≠ 0) → (∀ j ∈ ow, i ≠ idx.getD j 0) → ∀ j ∈ ow, (ρ (idx.getD j 0)).block ≠ (ρ i).block := by
    intro i b hb ho hne j hj
    obtain ⟨c, hc, hco⟩ := how j hj
    obtain ⟨b', hb', _, hown⟩ := hg.blk j c hc
    exact hs.inj _ b' i b hb' (hown hco).1 hb ho (Ne.symm (hne j hj))
  have hsame : ∀ i b, hp i = some b → backR ρ ρ' fid nw i = ρ i := fun i b hb => hext.same i (hs.dom i b hb)
  refine ⟨?_, ?_, ?_, ?_, ?_⟩
  · intro i b hb ho
    rcases hsrc hb with ⟨t, b0, ht, rfl, e1, e2, e3, rfl⟩ | ⟨e1, e2, e3⟩
    · obtain ⟨_, hρ⟩ := hback t (hok t ht)
      obtain ⟨a1, rest, a2, a3⟩ := h1.own t b0 e1 e3
      rw [hρ]
      refine ⟨a1, rest, a2, ?_⟩
      rw [a3]
      simp only [Blk.ren]
      rw [cells_back (fun i hi => (hback i hi).2) e2]
    · obtain ⟨a1, rest, a2, a3⟩ := hs.own i b e1 ho
      rw [hsame i b e1]
      refine ⟨a1, rest, a2, ?_⟩
      rw [cellsOf_congr (A := A) (fun j hj => hext.same j hj) (hs.inA i b e1)]
      rw [hfr.block _ (Array.getElem?_eq_some_iff.1 a3).1]
      · exact a3
      · rintro ⟨j, hj, e⟩
        exact hold i b e1 (.inl ho) e2 j hj e.symm
  · intro i b hb ho k v hv
    rcases hsrc hb with ⟨t, b0, ht, rfl, e1, e2, e3, rfl⟩ | ⟨e1, e2, e3⟩
    · exact absurd e3 (by simpa [Blk.ren] using ho)
    · rw [hsame i b e1]
      rw [cellsOf_congr (A := A) (fun j hj => hext.same j hj) (hs.inA i b e1)] at hv
      have h := hs.view i b e1 ho k v hv
      rw [cell?_congr (w := w)]
      · exact h
      · rw [Addr.add_block]
        have hlt := cell?_some_lt h
        rw [Addr.add_block] at hlt
        refine hfr.block _ hlt ?_
        rintro ⟨j, hj, e⟩
        refine hold i b e1 (.inr ?_) e2 j hj e.symm
        have := (List.getElem?_eq_some_iff.1 hv).1
        rw [cellsOf_length] at this
        omega
  · intro i b i' b' hb ho hb' ho' hne
    rcases hsrc hb with ⟨t, b0, ht, rfl, e1, e2, e3, rfl⟩ | ⟨e1, e2, e3⟩
    · obtain ⟨_, hρ⟩ := hback t (hok t ht)
      rw [hρ]
      rcases hsrc hb' with ⟨t', b0', ht', rfl, e1', e2', e3', rfl⟩ | ⟨e1', e2', e3'⟩
      · obtain ⟨_, hρ'⟩ := hback t' (hok t' ht')
        rw [hρ']
        exact h1.inj t b0 t' b0' e1 e3 e1' (.inl e3') (fun e => hne (by rw [e]))
      · rw [hsame i' b' e1']
        rcases hfp t b0 e1 e3 with ⟨j, hj, e⟩ | hge'
        · rw [e]; exact hold i' b' e1' ho' e2' j hj
        · have := hs.dom_lt e1' ho'
          omega
    · rw [hsame i b e1]
      rcases hsrc hb' with ⟨t', b0', ht', rfl, e1', e2', e3', rfl⟩ | ⟨e1', e2', e3'⟩
      · obtain ⟨_, hρ'⟩ := hback t' (hok t' ht')
        rw [hρ']
        rcases hfp t' b0' e1' e3' with ⟨j, hj, e⟩ | hge'
        · rw [e]; exact Ne.symm (hold i b e1 (.inl ho) e2 j hj)
        · have := hs.dom_lt e1 (.inl ho)
          omega
      · rw [hsame i' b' e1']
        exact hs.inj i b i' b' e1 ho e1' ho' hne
  · intro i b hb
    rcases hsrc hb with ⟨t, b0, ht, rfl, e1, e2, e3, rfl⟩ | ⟨e1, e2, e3⟩
    · exact (hback t (hok t ht)).1
    · exact .inl (hs.dom i b e1)
  · intro i b hb
    rcases hsrc hb with ⟨t, b0, ht, rfl, e1, e2, e3, rfl⟩ | ⟨e1, e2, e3⟩
    · exact segsRen_inA (B := fun i => okId l.length nw i = true) (fun j hj => (hback j hj).1) (segsAllId_inA e2)
    · exact segsInA_mono (fun _ h => .inl h) (hs.inA i b e1)


/-- A function that writes. -/
theorem write_ok {E : Env} (hE : EnvOk E) (hm : E.P.follows .mixedOrders = true) {g : FuncId} {fn : Func} {c : Code} (hf : E.P.funcs[g]? = some fn) (hname : (fn.name == "runtime.NumGoroutine") = false) (hb : fn.body = some c) {Lp : Blocks} {fl : Nat}
    (hB : ∀ K, AllBlocks E K fn.ntmps Lp c) {M : List V → Nat → Hp → T (Res × List Nat)}
    (h : ∀ args fid hp (Q : Res × List Nat → Prop), holds (M args fid hp) Q → ∃ idx bl args' ow,
      Gives hp idx bl ∧ blksLt bl.length bl = true ∧ vsLt bl.length args' = true ∧ args'.length ≤ fn.ntmps ∧ (∀ ρ : Nat → Addr, args'.map (V.enc fun i => ρ (idx.getD i 0)) = args.map (V.enc ρ)) ∧
      (∀ j b, bl[j]? = some b → b.own = true → j ∈ ow) ∧ (∀ j ∈ ow, ∃ b, bl[j]? = some b ∧ b.own = true) ∧
      holds (fnT E fn c Lp fl args' (hpB bl) bl.length) (fun x => ∃ nw r ns sv l, nw.length ≤ 32 ∧ nw.Nodup ∧ (∀ t ∈ nw, bl.length ≤ t) ∧ outRes bl.length idx ow nw fid x = some r ∧ r.val.erase = sv.erase ∧ Q (⟨[], ns, sv, r.wrs, r.news⟩, l))) :
    BModelOk E.P g M := by
  refine .inl ⟨⟨fn, hf, hname, by simp [hb]⟩, fun args ρ A hp w fid Q hs hargs hfresh hP => ?_⟩
  obtain ⟨idx, bl, args', ow, h1, h2, h3, h4, h5, h6, h7, h8⟩ := h args fid hp _ hP
  rw [← h5 ρ]
  have hA : ∀ j, j < bl.length → A (idx.getD j 0) := by
    intro j hj
    obtain ⟨b, hb, _⟩ := h1.blk j bl[j] (List.getElem?_eq_getElem hj)
    exact hs.dom _ b hb
  refine fnT_ok (D := fun k => ∃ j, j ∈ ow ∧ k = (ρ (idx.getD j 0)).block) (base := bl.length) hE hm hf hb (gives_sim hs h1 h2) (hB _) (vsLt_inA (fun _ h => h) h3) h4 (fun i hi => hi) (fun i b hb ho => ⟨i, h6 i b hb ho, rfl⟩) (holds_mono (fun x hx ρ' A' v w' hs' hv hfr hex hfp => ?_) h8)
  obtain ⟨nw, r, ns, sv, l, k1, k2, k3, k4, k5, k6⟩ := hx
  have hex' : ∀ i, i < bl.length → ρ' i = ρ (idx.getD i 0) := fun i hi => (hex i hi).2
  have hsim := back_sim hs h1 h7 k1 k2 k3 hfresh k4 hs' hfr hex' hfp
  have hval : x.2.allId (okId bl.length nw) = true ∧ r.val = x.2.ren (renOf bl.length idx nw fid) ∧ (∀ j ∈ ow, ∃ ob, (idx.getD j 0, ob) ∈ r.wrs) ∧ (∀ t ∈ nw, ∃ b0, x.1.hp t = some b0 ∧ b0.own = true) := by
    unfold outRes at k4
    split at k4
    · rename_i wrs news hw hn
      split at k4
      · rename_i hid
        simp only [Option.some.injEq] at k4
        subst k4
        refine ⟨hid, rfl, fun j hj => ?_, fun t ht => ?_⟩
        rotate_left
        · obtain ⟨n, hn'⟩ := List.mem_iff_getElem?.1 ht
          obtain ⟨y, hy, e'⟩ := (mapAll_spec hn).2 n t hn'
          cases hb : x.1.hp t with
          | none => rw [hb] at e'; cases e'
          | some b0 =>
            rw [hb] at e'
            simp only [] at e'
            split at e'
            · rename_i hc
              simp only [Bool.and_eq_true] at hc
              exact ⟨b0, rfl, hc.2⟩
            · cases e'
        obtain ⟨n, hn'⟩ := List.mem_iff_getElem?.1 hj
        obtain ⟨y, hy, e'⟩ := (mapAll_spec hw).2 n j hn'
        refine ⟨y.2, ?_⟩
        have : y.1 = idx.getD j 0 := by
          cases hb : x.1.hp j with
          | none => rw [hb] at e'; simp only [Option.some.injEq] at e'; rw [← e']
          | some b0 =>
            rw [hb] at e'
            simp only [] at e'
            split at e'
            · simp only [Option.some.injEq] at e'; rw [← e']
            · cases e'
        rw [← this]
        exact List.mem_of_getElem? hy
      · cases k4
    · cases k4
  obtain ⟨v1, v2, v3, v4⟩ := hval
  have hback := back_ok (m := bl.length) (idx := idx) (nw := nw) (fid := fid) (ρ := ρ) (ρ' := ρ') (A := A) hA hex' k1 hfresh
  obtain ⟨hn, hk⟩ := k6 (by simp)
  refine hk (backR ρ ρ' fid nw) (backA A fid nw.length) v w' (back_ext k1 hfresh) hsim ?_ (hfr.mono fun k _ hD => ?_) (fun i hi hni => ?_)
  · refine (R_erase _ _ sv v).1 (k5 ▸ (R_erase _ _ r.val v).2 ?_)
    rw [v2]
    exact R_back hback v1 hv
  · obtain ⟨j, hj, e⟩ := hD
    exact ⟨_, v3 j hj, e⟩
  · rcases hi with hi | ⟨e1, e2⟩
    · exact absurd hi hni
    · have hlt : i - fid < nw.length := by omega
      have he : backR ρ ρ' fid nw i = ρ' nw[i - fid] := by
        unfold backR
        rw [if_pos ⟨e1, e2⟩]
        congr 1
        simp [hlt]
      rw [he]
      obtain ⟨b0, hb0, ho⟩ := v4 _ (List.getElem_mem hlt)
      rcases hfp _ b0 hb0 ho with ⟨j, hj, e⟩ | hge
      · exact .inr ⟨_, v3 j hj, e⟩
      · exact .inl hge

end Go.X
