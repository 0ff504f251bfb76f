import Derived.Test.YtbblenohgednjaaX19
/- A part of the walking machine: shown once for every program of the model; no condition of its own. -/
/- Functions that read what they are given. -/
namespace Go.X

/-! ### Other numbers for the same blocks -/
def XA.ren (f : Nat → Nat) (a : XA) : XA := { a with id := f a.id }
def SC.ren (f : Nat → Nat) : SC → SC
  | .ptr a => .ptr (a.ren f)
  | .ptrIf b a => .ptrIf b (a.ren f)
  | .slc a s l c => .slc (a.ren f) s l c
  | v => v
def Seg.ren (f : Nat → Nat) : Seg → Seg
  | .one v => .one (v.ren f)
  | .recs n sz g => .recs n sz fun i => (g i).map (SC.ren f)
  | g => g
def segsRen (f : Nat → Nat) : List Seg → List Seg
  | [] => []
  | g :: r => g.ren f :: segsRen f r
def scsRen (f : Nat → Nat) : List SC → List SC
  | [] => []
  | v :: r => v.ren f :: scsRen f r
def V.ren (f : Nat → Nat) : V → V
  | .sc v => .sc (v.ren f)
  | .agg g => .agg (segsRen f g)
  | .fn h a b => .fn h (scsRen f a) (scsRen f b)
def vsRen (f : Nat → Nat) : List V → List V
  | [] => []
  | v :: r => v.ren f :: vsRen f r
def SV.ren (f : Nat → Nat) : SV → SV
  | .ev v => .ev (v.ren f)
  | .tup l => .tup (vsRen f l)
  | v => v

section
variable {f : Nat → Nat} {ρ : Nat → Addr} {A : Nat → Prop}

theorem SC.ren_enc (v : SC) : (v.ren f).enc ρ = v.enc (fun j => ρ (f j)) := by cases v <;> rfl
theorem SC.ren_inA {B : Nat → Prop} (h : ∀ j, B j → A (f j)) {v : SC} (hv : v.inA B) : (v.ren f).inA A := by
  cases v <;> first | trivial | exact h _ hv
theorem Seg.ren_cells (g : Seg) : (g.ren f).cells ρ = g.cells (fun j => ρ (f j)) := by
  cases g with
  | one v => simp only [Seg.ren, Seg.cells, SC.ren_enc]
  | recs n sz g =>
    simp only [Seg.ren, Seg.cells]
    refine List.map_congr_left fun i _ => ?_
    rw [List.getElem?_map]
    cases (g (i / sz))[i % sz]? with
    | none => rfl
    | some v => exact SC.ren_enc v
  | _ => rfl
theorem Seg.ren_inA {B : Nat → Prop} (h : ∀ j, B j → A (f j)) {g : Seg} (hg : g.inA B) : (g.ren f).inA A := by
  cases g with
  | one v => exact SC.ren_inA h hg
  | recs n sz g =>
    intro i v hv
    obtain ⟨u, hu, rfl⟩ := List.mem_map.1 hv
    exact SC.ren_inA h (hg i u hu)
  | _ => trivial
theorem segsRen_cells : ∀ l : List Seg, cellsOf ρ (segsRen f l) = cellsOf (fun j => ρ (f j)) l
  | [] => rfl
  | g :: r => by simp only [segsRen, cellsOf, Seg.ren_cells, segsRen_cells r]
theorem segsRen_inA {B : Nat → Prop} (h : ∀ j, B j → A (f j)) : ∀ {l : List Seg}, segsInA B l → segsInA A (segsRen f l)
  | [], _ => fun g hg => by simp [segsRen] at hg
  | g :: r, hl => by
    unfold segsInA at hl ⊢
    simp only [segsRen, List.forall_mem_cons] at hl ⊢
    exact ⟨Seg.ren_inA h hl.1, segsRen_inA h hl.2⟩
theorem scsRen_enc : ∀ l : List SC, (scsRen f l).map (SC.enc ρ) = l.map (SC.enc fun j => ρ (f j))
  | [] => rfl
  | v :: r => by simp only [scsRen, List.map_cons, SC.ren_enc, scsRen_enc r]
theorem scsRen_inA {B : Nat → Prop} (h : ∀ j, B j → A (f j)) : ∀ {l : List SC}, (∀ v ∈ l, v.inA B) → ∀ v ∈ scsRen f l, v.inA A
  | [], _ => fun g hg => by simp [scsRen] at hg
  | g :: r, hl => by
    simp only [scsRen, List.forall_mem_cons] at hl ⊢
    exact ⟨SC.ren_inA h hl.1, scsRen_inA h hl.2⟩
theorem V.ren_enc (v : V) : (v.ren f).enc ρ = v.enc (fun j => ρ (f j)) := by
  cases v with
  | sc v => exact SC.ren_enc v
  | agg g => simp only [V.ren, V.enc, segsRen_cells]
  | fn h a b => simp only [V.ren, V.enc, scsRen_enc]
theorem V.ren_inA {B : Nat → Prop} (h : ∀ j, B j → A (f j)) {v : V} (hv : v.inA B) : (v.ren f).inA A := by
  cases v with
  | sc v => exact SC.ren_inA h hv
  | agg g => exact segsRen_inA h hv
  | fn k a b => exact ⟨scsRen_inA h hv.1, scsRen_inA h hv.2⟩
theorem vsRen_enc : ∀ l : List V, (vsRen f l).map (V.enc ρ) = l.map (V.enc fun j => ρ (f j))
  | [] => rfl
  | v :: r => by simp only [vsRen, List.map_cons, V.ren_enc, vsRen_enc r]
theorem vsRen_inA {B : Nat → Prop} (h : ∀ j, B j → A (f j)) : ∀ {l : List V}, (∀ v ∈ l, v.inA B) → ∀ v ∈ vsRen f l, v.inA A
  | [], _ => fun g hg => by simp [vsRen] at hg
  | g :: r, hl => by
    simp only [vsRen, List.forall_mem_cons] at hl ⊢
    exact ⟨V.ren_inA h hl.1, vsRen_inA h hl.2⟩
theorem R_ren {B : Nat → Prop} (h : ∀ j, B j → A (f j)) {x : SV} {v : Value} (hx : ∀ g u, x ≠ .grd g u) (hr : R (fun j => ρ (f j)) B x v) : R ρ A (x.ren f) v := by
  cases x with
  | any => trivial
  | ev u => exact ⟨V.ren_inA h hr.1, by rw [V.ren_enc]; exact hr.2⟩
  | tup l => exact ⟨vsRen_inA h hr.1, by rw [vsRen_enc]; exact hr.2⟩
  | grd g u => exact absurd rfl (hx g u)
end

/-! ### Which numbers stand in a value -/
def SC.lt (m : Nat) : SC → Bool
  | .ptr a | .ptrIf _ a | .slc a _ _ _ => decide (a.id < m)
  | _ => true
def Seg.lt (m : Nat) : Seg → Bool
  | .one v => v.lt m
  | .recs _ _ _ => false
  | _ => true
def segsLt (m : Nat) : List Seg → Bool
  | [] => true
  | g :: r => g.lt m && segsLt m r
def scsLt (m : Nat) : List SC → Bool
  | [] => true
  | g :: r => g.lt m && scsLt m r
def V.lt (m : Nat) : V → Bool
  | .sc v => v.lt m
  | .agg g => segsLt m g
  | .fn _ a b => scsLt m a && scsLt m b
def vsLt (m : Nat) : List V → Bool
  | [] => true
  | g :: r => g.lt m && vsLt m r
def SV.lt (m : Nat) : SV → Bool
  | .ev v => v.lt m
  | .tup l => vsLt m l
  | _ => false

section
variable {m : Nat} {A : Nat → Prop}
theorem SC.lt_inA (hA : ∀ i, i < m → A i) {v : SC} (h : v.lt m = true) : v.inA A := by
  cases v <;> first | trivial | exact hA _ (by simpa [SC.lt] using h)
theorem Seg.lt_inA (hA : ∀ i, i < m → A i) {v : Seg} (h : v.lt m = true) : v.inA A := by
  cases v <;> first | trivial | exact SC.lt_inA hA h | cases h
theorem segsLt_inA (hA : ∀ i, i < m → A i) : ∀ {l : List Seg}, segsLt m l = true → segsInA A l
  | [], _ => fun g hg => by simp at hg
  | g :: r, h => by
    simp only [segsLt, Bool.and_eq_true] at h
    have := segsLt_inA hA h.2
    unfold segsInA at this ⊢
    simp only [List.forall_mem_cons]
    exact ⟨Seg.lt_inA hA h.1, this⟩
theorem scsLt_inA (hA : ∀ i, i < m → A i) : ∀ {l : List SC}, scsLt m l = true → ∀ v ∈ l, v.inA A
  | [], _ => fun g hg => by simp at hg
  | g :: r, h => by
    simp only [scsLt, Bool.and_eq_true] at h
    simp only [List.forall_mem_cons]
    exact ⟨SC.lt_inA hA h.1, scsLt_inA hA h.2⟩
theorem V.lt_inA (hA : ∀ i, i < m → A i) {v : V} (h : v.lt m = true) : v.inA A := by
  cases v with
  | sc v => exact SC.lt_inA hA h
  | agg g => exact segsLt_inA hA h
  | fn f a b =>
    simp only [V.lt, Bool.and_eq_true] at h
    exact ⟨scsLt_inA hA h.1, scsLt_inA hA h.2⟩
theorem vsLt_inA (hA : ∀ i, i < m → A i) : ∀ {l : List V}, vsLt m l = true → ∀ v ∈ l, v.inA A
  | [], _ => fun g hg => by simp at hg
  | g :: r, h => by
    simp only [vsLt, Bool.and_eq_true] at h
    simp only [List.forall_mem_cons]
    exact ⟨V.lt_inA hA h.1, vsLt_inA hA h.2⟩

/-- What stands below 'm' alone is the same wherever these numbers are. -/
theorem R_lt {ρ ρ' : Nat → Addr} {A B : Nat → Prop} (hB : ∀ i, i < m → B i) (hρ : ∀ i, i < m → ρ' i = ρ i) {x : SV} (h : x.lt m = true) {v : Value} (hr : R ρ A x v) : R ρ' B x v := by
  have hc : ∀ i, (fun i => i < m) i → ρ' i = ρ i := hρ
  cases x with
  | any => cases h
  | ev u => exact ⟨V.lt_inA hB h, by rw [hr.2]; exact (V.enc_congr hc (V.lt_inA (A := fun i => i < m) (fun _ h => h) h)).symm⟩
  | tup l =>
    refine ⟨vsLt_inA hB h, ?_⟩
    rw [hr.2]
    congr 2
    exact List.map_congr_left fun u hu => (V.enc_congr hc (vsLt_inA (A := fun i => i < m) (fun _ h => h) h u hu)).symm
  | grd g u => cases h
end

/-- The blocks that a function is given, under its own numbers: they may be read. -/
def hpOf (l : List (List Seg)) : Hp := fun j => match l[j]? with
  | some g => some ⟨g, 0, 0, false⟩
  | none => none

def segsAllLt (m : Nat) : List (List Seg) → Bool
  | [] => true
  | g :: r => segsLt m g && segsAllLt m r

theorem segsAllLt_get {m : Nat} : ∀ {l : List (List Seg)} {j : Nat} {g : List Seg}, segsAllLt m l = true → l[j]? = some g → segsLt m g = true
  | [], j, g, _, h => by simp at h
  | x :: r, j, g, hl, h => by
    simp only [segsAllLt, Bool.and_eq_true] at hl
    cases j with
    | zero => simp at h; subst h; exact hl.1
    | succ j => exact segsAllLt_get hl.2 (by simpa using h)

/-- A caller's blocks that show at least these cells. -/
def Shows (hp : Hp) (idx : List Nat) (l : List (List Seg)) : Prop :=
  ∀ j g, l[j]? = some g → ∃ b, hp (idx.getD j 0) = some b ∧ ∀ ρ : Nat → Addr, ∀ (k : Nat) (v : Value), (cellsOf (fun i => ρ (idx.getD i 0)) g)[k]? = some v → (cellsOf ρ b.segs)[k]? = some v

theorem shows_sim {ρ : Nat → Addr} {A : Nat → Prop} {hp : Hp} {w : World} (hs : HSim ρ A hp w) {idx : List Nat} {l : List (List Seg)} (h : Shows hp idx l) (hlt : segsAllLt l.length l = true) :
    HSim (fun i => ρ (idx.getD i 0)) (fun i => i < l.length) (hpOf l) w := by
  have get : ∀ j b, hpOf l j = some b → ∃ g, l[j]? = some g ∧ b = ⟨g, 0, 0, false⟩ := by
    intro j b hb
    unfold hpOf at hb
    cases hg : l[j]? with
    | none => rw [hg] at hb; cases hb
    | some g => rw [hg] at hb; exact ⟨g, rfl, (Option.some.inj hb).symm⟩
  refine ⟨?_, ?_, ?_, ?_, ?_⟩
  · intro j b hb ho
    obtain ⟨g, _, rfl⟩ := get j b hb
    cases ho
  · intro j b hb _ k v hv
    obtain ⟨g, hg, rfl⟩ := get j b hb
    obtain ⟨b', hb', hc⟩ := h j g hg
    exact hs.cell hb' (hc ρ k v hv)
  · intro j b j' b' hb ho
    obtain ⟨g, _, rfl⟩ := get j b hb
    cases ho
  · intro j b hb
    obtain ⟨g, hg, _⟩ := get j b hb
    exact (List.getElem?_eq_some_iff.1 hg).1
  · intro j b hb
    obtain ⟨g, hg, rfl⟩ := get j b hb
    exact segsLt_inA (fun _ h => h) (segsAllLt_get hlt hg)

/-- A function that reads. -/
theorem read_ok {E : Env} (hE : EnvOk E) (hm : E.P.follows .mixedOrders = true) {g : FuncId} {fn : Func} {c : Code} (hf : E.P.funcs[g]? = some fn) (hname : (fn.name == "runtime.NumGoroutine") = false) (hb : fn.body = some c) {Lp : Blocks} {fl : Nat}
    (hB : ∀ K, AllBlocks E K fn.ntmps Lp c) {M : List V → Nat → Nat → Rd}
    (h : ∀ args fid hp r l, (M args fid 0).run hp = some (r, l) → r.asm = [] ∧ r.wrs = [] ∧ r.news = [] ∧ ∃ idx bl args' n sv',
      Shows hp idx bl ∧ segsAllLt bl.length bl = true ∧ vsLt bl.length args' = true ∧ args'.length ≤ fn.ntmps ∧ (∀ ρ : Nat → Addr, args'.map (V.enc fun i => ρ (idx.getD i 0)) = args.map (V.enc ρ)) ∧
      collapseM bl.length (fnT E fn c Lp fl args' (hpOf bl) bl.length) = some (n, sv') ∧ SV.lt bl.length sv' = true ∧ ((∀ p ∈ r.need, p) → n.ok ∧ (sv'.ren fun i => idx.getD i 0).erase = r.val.erase)) :
    ModelOk E.P g M := by
  refine ⟨⟨fn, hf, hname, by simp [hb]⟩, fun args ρ A hp w fid Q hs hargs hfresh hP => ?_⟩
  obtain ⟨r, l, hr, hP⟩ := hP 0
  obtain ⟨ha, hw, hne, idx, bl, args', n, sv', h1, h2, h3, h4, h5, h6, h7, h8⟩ := h args fid hp r l hr
  obtain ⟨hn, hk⟩ := hP (by simp [ha])
  obtain ⟨h9, h10⟩ := h8 hn
  rw [← h5 ρ]
  have hA : ∀ j, j < bl.length → A (idx.getD j 0) := by
    intro j hj
    obtain ⟨b, hb, _⟩ := h1 j bl[j] (List.getElem?_eq_getElem hj)
    exact hs.dom _ b hb
  refine fnT_ok (D := fun _ => False) (base := bl.length) hE hm hf hb (shows_sim hs h1 h2) (hB _) (vsLt_inA (fun _ h => h) h3) h4 (fun i hi => hi) (fun i b hb ho => ?_) (holds_mono (fun x hx ρ' A' v w' _ hv hfr hex _ => ?_) (collapseM_spec h6 h9))
  · unfold hpOf at hb
    split at hb
    · cases hb; cases ho
    · cases hb
  · have r1 := hx ρ' A' v (fun i hi => (hex i hi).1) hv
    have r2 : R (fun i => ρ (idx.getD i 0)) (fun i => i < bl.length) sv' v := R_lt (fun _ h => h) (fun i hi => (hex i hi).2.symm) h7 r1
    have r3 : R ρ A (sv'.ren fun i => idx.getD i 0) v := R_ren (f := fun i => idx.getD i 0) hA (fun g u e => by rw [e] at h7; cases h7) r2
    have r4 : R ρ A r.val v := (R_erase ρ A r.val v).1 (h10 ▸ (R_erase ρ A _ v).2 r3)
    refine hk ρ A v w' (Ext.refl _ _ _) ?_ r4 (hfr.mono fun _ _ h => h.elim) (fun i h1 h2 => absurd h1 h2)
    simp only [applyRes, hw, hne, applyWrs, applyNews]
    exact hs.frame hfr fun _ _ _ h => h
end Go.X
