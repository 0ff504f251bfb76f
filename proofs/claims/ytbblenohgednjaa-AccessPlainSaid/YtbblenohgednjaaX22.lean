import Derived.Test.YtbblenohgednjaaX21
/- A part of the walking machine: shown once for every program of the model; no condition of its own. -/
/- Functions walked where they are called. -/
namespace Go.X

def SC.ids : SC → List Nat
  | .ptr a | .ptrIf _ a | .slc a _ _ _ => [a.id]
  | _ => []
def segsIds : List Seg → List Nat
  | [] => []
  | .one v :: r => v.ids ++ segsIds r
  | _ :: r => segsIds r
def scsIds : List SC → List Nat
  | [] => []
  | v :: r => v.ids ++ scsIds r
def V.ids : V → List Nat
  | .sc v => v.ids
  | .agg g => segsIds g
  | .fn _ a b => scsIds a ++ scsIds b
def vsIds : List V → List Nat
  | [] => []
  | v :: r => v.ids ++ vsIds r
def SV.ids : SV → List Nat
  | .ev v => v.ids
  | .tup l => vsIds l
  | _ => []

def memB : List Nat → Nat → Bool
  | [], _ => false
  | a :: r, i => Nat.beq a i || memB r i
def nodupB : List Nat → Bool
  | [] => true
  | a :: r => !memB r a && nodupB r
theorem memB_iff : ∀ {l : List Nat} {i : Nat}, memB l i = true ↔ i ∈ l
  | [], i => by simp [memB]
  | a :: r, i => by
    simp only [memB, Bool.or_eq_true, memB_iff, List.mem_cons, Nat.beq_eq]
    exact ⟨fun h => h.imp Eq.symm id, fun h => h.imp Eq.symm id⟩
theorem nodupB_iff : ∀ {l : List Nat}, nodupB l = true → l.Nodup
  | [], _ => List.nodup_nil
  | a :: r, h => by
    simp only [nodupB, Bool.and_eq_true, Bool.not_eq_true'] at h
    refine List.nodup_cons.2 ⟨fun hm => ?_, nodupB_iff h.2⟩
    rw [memB_iff.2 hm] at h
    exact absurd h.1 (by simp)

/-- Which numbers can be reached, in the order in which they are met. -/
def reach (hp : Hp) : Nat → List Nat → List Nat → List Nat
  | 0, _, acc => acc
  | _ + 1, [], acc => acc
  | f + 1, i :: r, acc => if memB acc i then reach hp f r acc else match hp i with
    | some b => reach hp f (r ++ segsIds b.segs) (acc ++ [i])
    | none => reach hp f r (acc ++ [i])

def posOf : List Nat → Nat → Nat
  | [], _ => 0
  | a :: r, i => if Nat.beq a i then 0 else posOf r i + 1

theorem posOf_get : ∀ {l : List Nat} {i : Nat}, memB l i = true → l.getD (posOf l i) 0 = i
  | [], i, h => by simp [memB] at h
  | a :: r, i, h => by
    simp only [posOf]
    by_cases e : Nat.beq a i = true
    · rw [if_pos e]
      simpa using Nat.eq_of_beq_eq_true e
    · rw [if_neg e]
      simp only [memB, Bool.or_eq_true] at h
      simpa using posOf_get (h.resolve_left e)

def takeBlks (hp : Hp) (idx : List Nat) : Option (List Blk) :=
  mapAll (fun i => match hp i with
    | some b => if segsAllId (memB idx) b.segs then some (b.ren (posOf idx)) else none
    | none => none) idx

def canon (args : List V) (hp : Hp) : Option (List Nat × List Blk × List V) :=
  let idx := reach hp 200 (vsIds args) []
  match takeBlks hp idx with
  | some bl => if nodupB idx && blksLt bl.length bl && vsAllId (memB idx) args && vsLt bl.length (vsRen (posOf idx) args) then some (idx, bl, vsRen (posOf idx) args) else none
  | none => none

def ownIdx : List Blk → Nat → List Nat
  | [], _ => []
  | b :: r, k => if b.own then k :: ownIdx r (k + 1) else ownIdx r (k + 1)

theorem ownIdx_mem : ∀ {l : List Blk} {k j : Nat}, j ∈ ownIdx l k ↔ ∃ i b, l[i]? = some b ∧ b.own = true ∧ j = k + i
  | [], k, j => by simp [ownIdx]
  | b :: r, k, j => by
    have ih := ownIdx_mem (l := r) (k := k + 1) (j := j)
    have step : (∃ i c, r[i]? = some c ∧ c.own = true ∧ j = k + 1 + i) ↔ ∃ i c, (b :: r)[i + 1]? = some c ∧ c.own = true ∧ j = k + (i + 1) := by
      simp only [List.getElem?_cons_succ]
      constructor
      · rintro ⟨i, c, h1, h2, h3⟩; exact ⟨i, c, h1, h2, by omega⟩
      · rintro ⟨i, c, h1, h2, h3⟩; exact ⟨i, c, h1, h2, by omega⟩
    simp only [ownIdx]
    by_cases ho : b.own = true
    · rw [if_pos ho, List.mem_cons, ih, step]
      constructor
      · rintro (rfl | ⟨i, c, h⟩)
        · exact ⟨0, b, by simp, ho, rfl⟩
        · exact ⟨i + 1, c, h⟩
      · rintro ⟨i, c, h1, h2, h3⟩
        cases i with
        | zero => exact .inl (by omega)
        | succ i => exact .inr ⟨i, c, h1, h2, h3⟩
    · rw [if_neg ho, ih, step]
      constructor
      · rintro ⟨i, c, h⟩; exact ⟨i + 1, c, h⟩
      · rintro ⟨i, c, h1, h2, h3⟩
        cases i with
        | zero => simp at h1; subst h1; exact absurd h2 ho
        | succ i => exact ⟨i, c, h1, h2, h3⟩

def geB (m : Nat) : List Nat → List Nat
  | [] => []
  | a :: r => if Nat.ble m a then a :: geB m r else geB m r
theorem geB_mem {m : Nat} : ∀ {l : List Nat} {t : Nat}, t ∈ geB m l → m ≤ t
  | [], t, h => by simp [geB] at h
  | a :: r, t, h => by
    simp only [geB] at h
    split at h
    · rename_i hc
      rcases List.mem_cons.1 h with rfl | h
      · exact Nat.le_of_ble_eq_true hc
      · exact geB_mem h
    · exact geB_mem h

def inlT (E : Env) (fn : Func) (c : Code) (Lp : Blocks) (fl : Nat) (args : List V) (fid : Nat) (hp : Hp) : T (Res × List Nat) :=
  match canon args hp with
  | none => .fail
  | some (idx, bl, args') =>
    if Nat.ble args'.length fn.ntmps then
      (fnT E fn c Lp fl args' (hpB bl) bl.length).bind fun x =>
        let ow := ownIdx bl 0
        let nw := geB bl.length (reach x.1.hp 200 (x.2.ids ++ ow) [])
        match outRes bl.length idx ow nw fid x with
        | some r => if Nat.ble nw.length 32 && nodupB nw then .leaf (r, idx) else .fail
        | none => .fail
    else .fail

theorem canon_spec {args : List V} {hp : Hp} {idx : List Nat} {bl : List Blk} {args' : List V} (h : canon args hp = some (idx, bl, args')) :
    Gives hp idx bl ∧ blksLt bl.length bl = true ∧ vsLt bl.length args' = true ∧ (∀ ρ : Nat → Addr, args'.map (V.enc fun i => ρ (idx.getD i 0)) = args.map (V.enc ρ)) := by
  unfold canon at h
  simp only [] at h
  split at h
  · rename_i bl0 hbl
    split at h
    · rename_i hc
      simp only [Bool.and_eq_true] at hc
      obtain ⟨⟨⟨hnd, hlt⟩, hid⟩, hvl⟩ := hc
      simp only [Option.some.injEq, Prod.mk.injEq] at h
      obtain ⟨rfl, rfl, rfl⟩ := h
      obtain ⟨hlen, hget⟩ := mapAll_spec hbl
      have hnd' := nodupB_iff hnd
      refine ⟨⟨fun j c hc => ?_, fun j k c c' hc _ hc' hne e => ?_⟩, hlt, hvl, fun ρ => ?_⟩
      · have hj : j < (reach hp 200 (vsIds args) []).length := by rw [← hlen]; exact (List.getElem?_eq_some_iff.1 hc).1
        obtain ⟨y, hy, e⟩ := hget j _ (List.getElem?_eq_getElem hj)
        rw [hc] at hy
        simp only [Option.some.injEq] at hy
        subst hy
        have hgd : (reach hp 200 (vsIds args) []).getD j 0 = (reach hp 200 (vsIds args) [])[j] := by simp [hj]
        split at e
        · rename_i b hb
          split at e
          · rename_i hin
            simp only [Option.some.injEq] at e
            subst e
            have hcells : ∀ ρ : Nat → Addr, cellsOf (fun i => ρ ((reach hp 200 (vsIds args) []).getD i 0)) (b.ren (posOf (reach hp 200 (vsIds args) []))).segs = cellsOf ρ b.segs := by
              intro ρ
              exact cells_back (ρ := fun i => ρ ((reach hp 200 (vsIds args) []).getD i 0)) (ρ' := ρ) (f := posOf (reach hp 200 (vsIds args) [])) (p := memB (reach hp 200 (vsIds args) [])) (fun i hi => by rw [posOf_get hi]) hin
            refine ⟨b, by rw [hgd]; exact hb, fun ρ k v hv => by rw [hcells ρ] at hv; exact hv, fun ho => ⟨ho, rfl, rfl, hcells⟩⟩
          · cases e
        · cases e
      · have hj : j < (reach hp 200 (vsIds args) []).length := by rw [← hlen]; exact (List.getElem?_eq_some_iff.1 hc).1
        have hk : k < (reach hp 200 (vsIds args) []).length := by rw [← hlen]; exact (List.getElem?_eq_some_iff.1 hc').1
        have e' : (reach hp 200 (vsIds args) [])[j] = (reach hp 200 (vsIds args) [])[k] := by simpa [hj, hk] using e
        have hp := List.pairwise_iff_getElem.1 hnd'
        rcases Nat.lt_trichotomy j k with hl | hl | hl
        · exact hp _ _ hj hk hl e'
        · exact hne hl
        · exact hp _ _ hk hj hl e'.symm
      · rw [vsRen_enc]
        refine List.map_congr_left fun v hv => ?_
        refine V.enc_congr (A := fun i => memB (reach hp 200 (vsIds args) []) i = true) (fun i hi => ?_) (vsAllId_inA hid v hv)
        rw [posOf_get hi]
    · cases h
  · cases h

theorem inl_ok {E : Env} (hE : EnvOk E) (hm : E.P.follows .mixedOrders = true) {g : FuncId} {fn : Func} {c : Code} (hf : E.P.funcs[g]? = some fn) (hname : (fn.name == "runtime.NumGoroutine") = false) (hb : fn.body = some c) {Lp : Blocks} {fl : Nat}
    (hB : ∀ K, AllBlocks E K fn.ntmps Lp c) : BModelOk E.P g (inlT E fn c Lp fl) := by
  refine write_ok hE hm hf hname hb hB (fl := fl) fun args fid hp Q h => ?_
  unfold inlT at h
  split at h
  · exact h.elim
  · rename_i idx bl args' hc
    obtain ⟨h1, h2, h3, h4⟩ := canon_spec hc
    split at h
    · rename_i hl
      rw [holds_bind] at h
      refine ⟨idx, bl, args', ownIdx bl 0, h1, h2, h3, Nat.le_of_ble_eq_true hl, h4, fun j b hj ho => ownIdx_mem.2 ⟨j, b, hj, ho, by omega⟩, fun j hj => ?_, holds_mono (fun x hx => ?_) h⟩
      · obtain ⟨i, b, e1, e2, e3⟩ := ownIdx_mem.1 hj
        exact ⟨b, by rw [e3, Nat.zero_add]; exact e1, e2⟩
      · simp only [] at hx
        split at hx
        · rename_i r hr
          split at hx
          · rename_i hc
            simp only [Bool.and_eq_true] at hc
            refine ⟨_, r, [], r.val, idx, Nat.le_of_ble_eq_true hc.1, nodupB_iff hc.2, fun t ht => geB_mem ht, hr, rfl, ?_⟩
            obtain ⟨asm, need, val, wrs, news⟩ := r
            have : asm = [] ∧ need = [] := by
              unfold outRes at hr
              split at hr
              · split at hr
                · simp only [Option.some.injEq, Res.mk.injEq] at hr
                  exact ⟨hr.1.symm, hr.2.1.symm⟩
                · cases hr
              · cases hr
            obtain ⟨rfl, rfl⟩ := this
            exact hx
          · exact hx.elim
        · exact hx.elim
    · exact h.elim

def inlE (E : Env) (g : FuncId) (fn : Func) : BEntry := ⟨g, inlT E fn (fn.body.getD .skip) (fun _ => none) 70⟩

end Go.X
