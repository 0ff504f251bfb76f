import Derived.Test.YtbblenohgednjaaX23
/- A part of the walking machine: shown once for every program of the model; no condition of its own. -/
/- Functions that read, walked where they are called: all answers as one. -/
namespace Go.X

def reachRd : Nat → List Nat → List Nat → (List Nat → Rd) → Rd
  | 0, _, _, _ => .fail
  | _ + 1, [], acc, k => k acc
  | f + 1, i :: r, acc, k => if memB acc i then reachRd f r acc k else .get i fun b => reachRd f (r ++ segsIds b.segs) (acc ++ [i]) k

theorem reachRd_run {hp : Hp} {k : List Nat → Rd} {r : Res} : ∀ {f : Nat} {todo acc : List Nat} {l : List Nat}, (reachRd f todo acc k).run hp = some (r, l) → ∃ idx l', (k idx).run hp = some (r, l')
  | 0, _, _, _, h => by simp [reachRd, Rd.run] at h
  | f + 1, [], acc, l, h => ⟨acc, l, h⟩
  | f + 1, i :: t, acc, l, h => by
    simp only [reachRd] at h
    split at h
    · exact reachRd_run h
    · obtain ⟨b, l', _, h⟩ := run_get h
      exact reachRd_run h

def getAll : List Nat → (List (List Seg) → Rd) → Rd
  | [], k => k []
  | i :: r, k => .get i fun b => getAll r fun l => k (b.segs :: l)

theorem getAll_run {hp : Hp} {r : Res} : ∀ {idx : List Nat} {k : List (List Seg) → Rd} {l : List Nat}, (getAll idx k).run hp = some (r, l) → ∃ bs l', (k bs).run hp = some (r, l') ∧ bs.length = idx.length ∧ ∀ j g, bs[j]? = some g → ∃ b, hp (idx.getD j 0) = some b ∧ b.segs = g
  | [], k, l, h => ⟨[], l, h, rfl, fun j g hj => by simp at hj⟩
  | i :: t, k, l, h => by
    simp only [getAll] at h
    obtain ⟨b, l', hb, h⟩ := run_get h
    obtain ⟨bs, l'', h1, h2, h3⟩ := getAll_run h
    refine ⟨b.segs :: bs, l'', h1, by simp [h2], fun j g hj => ?_⟩
    cases j with
    | zero => simp at hj; subst hj; exact ⟨b, hb, rfl⟩
    | succ j => simpa using h3 j g (by simpa using hj)

def renSegsAll (f : Nat → Nat) : List (List Seg) → List (List Seg)
  | [] => []
  | g :: r => segsRen f g :: renSegsAll f r
def allIdAll (p : Nat → Bool) : List (List Seg) → Bool
  | [] => true
  | g :: r => segsAllId p g && allIdAll p r
theorem renSegsAll_length {f : Nat → Nat} : ∀ l, (renSegsAll f l).length = l.length
  | [] => rfl
  | g :: r => by simp [renSegsAll, renSegsAll_length r]
theorem renSegsAll_get {f : Nat → Nat} {p : Nat → Bool} : ∀ {l : List (List Seg)} {j : Nat} {g : List Seg}, (renSegsAll f l)[j]? = some g → allIdAll p l = true → ∃ g0, l[j]? = some g0 ∧ g = segsRen f g0 ∧ segsAllId p g0 = true
  | [], j, g, h, _ => by simp [renSegsAll] at h
  | x :: r, j, g, h, ha => by
    simp only [allIdAll, Bool.and_eq_true] at ha
    cases j with
    | zero => simp [renSegsAll] at h; exact ⟨x, rfl, h.symm, ha.1⟩
    | succ j => simpa using renSegsAll_get (by simpa [renSegsAll] using h) ha.2

def inlR (E : Env) (fn : Func) (c : Code) (Lp : Blocks) (fl : Nat) (args : List V) (_ _ : Nat) : Rd :=
  reachRd 200 (vsIds args) [] fun idx => getAll idx fun bs =>
    let bl := renSegsAll (posOf idx) bs
    let args' := vsRen (posOf idx) args
    if allIdAll (memB idx) bs && segsAllLt bl.length bl && vsAllId (memB idx) args && vsLt bl.length args' && Nat.ble args'.length fn.ntmps then
      match collapseM bl.length (fnT E fn c Lp fl args' (hpOf bl) bl.length) with
      | some (n, sv) => if SV.lt bl.length sv then .ret ⟨[], [n.ok], sv.ren (fun i => idx.getD i 0), [], []⟩ else .fail
      | none => .fail
    else .fail

theorem inlR_ok {E : Env} (hE : EnvOk E) (hm : E.P.follows .mixedOrders = true) {g : FuncId} {fn : Func} {c : Code} (hf : E.P.funcs[g]? = some fn) (hname : (fn.name == "runtime.NumGoroutine") = false) (hb : fn.body = some c) {Lp : Blocks} {fl : Nat}
    (hB : ∀ K, AllBlocks E K fn.ntmps Lp c) : ModelOk E.P g (inlR E fn c Lp fl) := by
  refine read_ok hE hm hf hname hb hB (fl := fl) fun args fid hp r l h => ?_
  unfold inlR at h
  obtain ⟨idx, l1, h⟩ := reachRd_run h
  obtain ⟨bs, l2, h, hlen, hbs⟩ := getAll_run h
  simp only [] at h
  split at h
  case isFalse => simp [Rd.run] at h
  rename_i hc
  simp only [Bool.and_eq_true] at hc
  obtain ⟨⟨⟨⟨c1, c2⟩, c3⟩, c4⟩, c5⟩ := hc
  split at h
  case h_2 => simp [Rd.run] at h
  rename_i n sv hcol
  split at h
  case isFalse => simp [Rd.run] at h
  rename_i hlt
  obtain rfl := run_ret h
  refine ⟨rfl, rfl, rfl, idx, renSegsAll (posOf idx) bs, vsRen (posOf idx) args, n, sv, fun j g hj => ?_, c2, c4, Nat.le_of_ble_eq_true c5, fun ρ => ?_, hcol, hlt, fun hn => ⟨hn _ (by simp), rfl⟩⟩
  · obtain ⟨g0, h1, rfl, h3⟩ := renSegsAll_get hj c1
    obtain ⟨b, hb', rfl⟩ := hbs j g0 h1
    refine ⟨b, hb', fun ρ k v hv => ?_⟩
    rw [cells_back (ρ := fun i => ρ (idx.getD i 0)) (ρ' := ρ) (f := posOf idx) (p := memB idx) (fun i hi => by rw [posOf_get hi]) h3] at hv
    exact hv
  · rw [vsRen_enc]
    refine List.map_congr_left fun v hv => ?_
    refine V.enc_congr (A := fun i => memB idx i = true) (fun i hi => ?_) (vsAllId_inA c3 v hv)
    rw [posOf_get hi]

def inlRE (E : Env) (g : FuncId) (fn : Func) : Entry := ⟨g, inlR E fn (fn.body.getD .skip) (fun _ => none) 70, false⟩

end Go.X
