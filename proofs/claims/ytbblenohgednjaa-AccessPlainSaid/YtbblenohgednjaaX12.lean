import Derived.Test.YtbblenohgednjaaX11
/- A part of the walking machine: shown once for every program of the model; no condition of its own. -/
/- A region: its operations one after the other, in whatever order. -/
namespace Go.X

structure S where
  tm : Nat → SV
  hp : Hp

/-- What a step does. -/
structure Out where
  asm : List Prop
  need : List Prop
  rds : List Nat
  val : SV
  wr : List (Nat × Option Blk)

def putTm (tm : Nat → SV) (dst : Option Tmp) (v : SV) : Nat → SV := match dst with
  | none => tm
  | some d => upd tm d v

def Out.app (o : Out) (dst : Option Tmp) (s : S) : S := ⟨putTm s.tm dst o.val, applyWrs s.hp o.wr⟩

inductive Gd where
  | yes
  | no
  | dyn (g : Bool)
  | bad

def gdOf (ops : Array Oper) (tm : Nat → SV) (o : Oper) : Gd :=
  match o.guard with
  | none => .yes
  | some (j, want) => match (ops[j]?).bind (·.dst) with
    | none => .bad
    | some d => match tm d with
      | .ev (.sc (.bool true b)) => if b == want then .yes else .no
      | .ev (.sc (.bool false b)) => .dyn (if want then b else !b)
      | .grd g (.sc (.bool _ b)) => .dyn (g && (if want then b else !b))
      | .tup [] => .no
      | _ => .bad

def opTmps (o : Op) : List Nat := o.operands.toList.filterMap fun | .tmp t => some t | _ => none

/-- Which of them must have been yielded; of a choice the one that chooses. -/
def gTmps (o : Op) : List Nat := match o with
  | .pick (.tmp t) _ _ => [t]
  | .pick _ _ _ => []
  | o => opTmps o

theorem gTmps_sub {o : Op} {t : Nat} (h : t ∈ gTmps o) : t ∈ opTmps o := by
  unfold gTmps at h
  split at h
  · simp at h; subst h; simp [opTmps, Op.operands]
  · simp at h
  · exact h

/-- The operands of an operation that is guarded: as they are where the guard lets it. -/
def ovG (l : List Nat) (tm : Nat → SV) : Operand → SV
  | .tmp t => match tm t with
    | .grd g v => if l.contains t then .ev v else .grd g v
    | y => y
  | x => ovOf tm x

def grdNeeds (g : Bool) (tm : Nat → SV) : List Nat → List Prop
  | [] => []
  | t :: r => match tm t with
    | .grd g' _ => (g = true → g' = true) :: grdNeeds g tm r
    | _ => grdNeeds g tm r

def ownAll (hp : Hp) : List (Nat × Option Blk) → Bool
  | [] => true
  | (i, _) :: r => (match hp i with | some b => b.own | none => false) && ownAll hp r

def newPairs (fid : Nat) : List Blk → List (Nat × Option Blk)
  | [] => []
  | b :: r => (fid, some b) :: newPairs (fid + 1) r

def dstOk (nt : Nat) : Option Tmp → Bool
  | none => true
  | some d => decide (d < nt)

def stepO (E : Env) (ops : Array Oper) (nt fid c : Nat) (o : Oper) (s : S) : Option Out :=
  if dstOk nt o.dst then
    match gdOf ops s.tm o with
    | .bad => none
    | .no => some ⟨[], [], [], .tup [], []⟩
    | .yes => match (opx E o.op (ovOf s.tm) fid c).run s.hp with
      | none => none
      | some (r, l) => if decide (r.news.length ≤ 32) && ownAll s.hp r.wrs then some ⟨r.asm, r.need, l, r.val, r.wrs ++ newPairs fid r.news⟩ else none
    | .dyn g => match (opx E o.op (ovG (gTmps o.op) s.tm) fid c).run s.hp with
      | some (⟨[], ns, .ev v, [], []⟩, l) => some ⟨[], (ns.map fun p => (g = true → p)) ++ grdNeeds g s.tm (gTmps o.op), l, .grd g v, []⟩
      | _ => none
  else none

structure Ctx where
  D : Nat → Prop
  w0 : World
  ρ0 : Nat → Addr
  A0 : Nat → Prop

structure RSim (K : Ctx) (nt base : Nat) (L : Nat → Prop) (ρ : Nat → Addr) (A : Nat → Prop) (s : S) (a : Act) (w : World) : Prop where
  hs : HSim ρ A s.hp w
  df : a.defers = []
  sz : a.tmps.size = nt
  tm : ∀ t, R ρ A (s.tm t) (a.tmps.getD t undef)
  bd : ∀ i, A i → i < base ∨ ∃ j, L j ∧ base + 32 * j ≤ i ∧ i < base + 32 * j + 32
  fp : ∀ i b, s.hp i = some b → b.own = true → K.D (ρ i).block ∨ K.w0.heap.size ≤ (ρ i).block
  fr : Fr K.D K.w0 w
  ex : ∀ i, K.A0 i → A i ∧ ρ i = K.ρ0 i

section
variable {E : Env} {K : Ctx} {nt base : Nat} {L : Nat → Prop} {ρ : Nat → Addr} {A : Nat → Prop} {s : S} {a : Act} {w : World}

theorem R_ov (h : ∀ t, R ρ A (s.tm t) (a.tmps.getD t undef)) (x : Operand) : R ρ A (ovOf s.tm x) (a.eval x) := by
  cases x with
  | tmp t => exact h t
  | const v => exact V.ofValue_spec v ρ A
  | global g => trivial
  | func f => exact ⟨⟨fun v hv => by simp at hv, fun v hv => by simp at hv⟩, by simp [V.enc, Act.eval]⟩

theorem grdNeeds_spec {g : Bool} {tm : Nat → SV} : ∀ {l : List Nat}, (∀ p ∈ grdNeeds g tm l, p) → ∀ t ∈ l, ∀ g' v, tm t = .grd g' v → g = true → g' = true
  | [], _, t, ht => by simp at ht
  | x :: r, h, t, ht => by
    intro g' v hv hg
    simp only [grdNeeds] at h
    rcases List.mem_cons.1 ht with rfl | ht
    · rw [hv] at h
      exact h _ List.mem_cons_self hg
    · split at h
      · exact grdNeeds_spec (fun p hp => h p (List.mem_cons_of_mem _ hp)) t ht g' v hv hg
      · exact grdNeeds_spec h t ht g' v hv hg

theorem R_ovG (h : ∀ t, R ρ A (s.tm t) (a.tmps.getD t undef)) {g : Bool} (hg : g = true) {l : List Nat} (hn : ∀ p ∈ grdNeeds g s.tm l, p) (x : Operand) : R ρ A (ovG l s.tm x) (a.eval x) := by
  cases x with
  | tmp t =>
    simp only [ovG]
    have ht := h t
    split
    · rename_i g' v hv
      split
      · rename_i hl
        rw [hv] at ht
        have := grdNeeds_spec hn t (by simpa using hl) g' v hv hg
        exact ht.1 this
      · rw [hv] at ht; exact ht
    · exact ht
  | const v => exact V.ofValue_spec v ρ A
  | global g => trivial
  | func f => exact ⟨⟨fun v hv => by simp at hv, fun v hv => by simp at hv⟩, by simp [V.enc, Act.eval]⟩

theorem gdOf_spec {ops : Array Oper} {o : Oper} (h : ∀ t, R ρ A (s.tm t) (a.tmps.getD t undef)) :
    (gdOf ops s.tm o = .yes → Region.wanted o (yielded ops a.tmps) = true) ∧ (gdOf ops s.tm o = .no → Region.wanted o (yielded ops a.tmps) = false) ∧
    (∀ g, gdOf ops s.tm o = .dyn g → Region.wanted o (yielded ops a.tmps) = g) := by
  unfold gdOf Region.wanted
  cases hg : o.guard with
  | none => simp
  | some p =>
    obtain ⟨j, want⟩ := p
    simp only []
    cases hd : (ops[j]?).bind (·.dst) with
    | none => simp
    | some d =>
      simp only []
      have hr := h d
      have key : ∀ b, a.tmps.getD d undef = .bool b → yielded ops a.tmps j = some b := by
        intro b hb
        unfold yielded
        rw [hd]
        simp only [Option.bind_some]
        cases hq : a.tmps[d]? with
        | none => simp [hq, undef] at hb
        | some v => simp [hq] at hb; subst hb; rfl
      have key2 : a.tmps.getD d undef = undef → yielded ops a.tmps j = none := by
        intro hb
        unfold yielded
        rw [hd]
        simp only [Option.bind_some]
        cases hq : a.tmps[d]? with
        | none => rfl
        | some v => simp [hq] at hb; subst hb; rfl
      split
      · rename_i b hv
        rw [hv] at hr
        rw [key b hr.2]
        cases b <;> cases want <;> simp
      · rename_i b hv
        rw [hv] at hr
        rw [key b hr.2]
        cases b <;> cases want <;> simp
      · rename_i g s' b hv
        rw [hv] at hr
        cases g with
        | true => rw [key b (hr.1 rfl).2]; cases b <;> cases want <;> simp
        | false => rw [key2 (hr.2 rfl)]; cases b <;> cases want <;> simp
      · rename_i hv
        rw [hv] at hr
        rw [key2 hr.2]
        simp
      · simp

theorem applyWrs_append (hp : Hp) : ∀ (l m : List (Nat × Option Blk)), applyWrs hp (l ++ m) = applyWrs (applyWrs hp l) m
  | [], m => rfl
  | (i, b) :: r, m => by simp only [List.cons_append, applyWrs]; exact applyWrs_append _ r m

theorem applyNews_pairs : ∀ (l : List Blk) (hp : Hp) (i : Nat), applyNews hp i l = applyWrs hp (newPairs i l)
  | [], hp, i => rfl
  | b :: r, hp, i => by simp only [applyNews, newPairs, applyWrs]; exact applyNews_pairs r _ _

theorem applyRes_eq (hp : Hp) (fid : Nat) (r : Res) : applyRes hp fid r = applyWrs hp (r.wrs ++ newPairs fid r.news) := by
  rw [applyRes, applyNews_pairs, applyWrs_append]

theorem applyWrs_other : ∀ (l : List (Nat × Option Blk)) (hp : Hp) (i : Nat), i ∉ l.map (·.1) → applyWrs hp l i = hp i
  | [], hp, i, _ => rfl
  | (j, b) :: r, hp, i, h => by
    simp only [List.map_cons, List.mem_cons, not_or] at h
    simp only [applyWrs]
    rw [applyWrs_other r _ i h.2]
    simp [upd, h.1]

theorem ownAll_spec : ∀ {l : List (Nat × Option Blk)} {hp : Hp}, ownAll hp l = true → ∀ i ob, (i, ob) ∈ l → ∃ b, hp i = some b ∧ b.own = true
  | [], hp, _, i, ob, h => by simp at h
  | (j, c) :: r, hp, h, i, ob, hm => by
    simp only [ownAll, Bool.and_eq_true] at h
    rcases List.mem_cons.1 hm with e | hm
    · obtain ⟨rfl, rfl⟩ := Prod.mk.inj e
      cases hi : hp i with
      | none => rw [hi] at h; simp at h
      | some b => rw [hi] at h; exact ⟨b, rfl, h.1⟩
    · exact ownAll_spec h.2 i ob hm

theorem R_put {dst : Option Tmp} {sv : SV} {v : Value} (hd : dstOk nt dst = true) (hsz : a.tmps.size = nt) (h : ∀ t, R ρ A (s.tm t) (a.tmps.getD t undef)) (hv : R ρ A sv v) :
    ∀ t, R ρ A (putTm s.tm dst sv t) ((a.put dst v).tmps.getD t undef) := by
  intro t
  cases dst with
  | none => exact h t
  | some d =>
    simp [dstOk] at hd
    simp only [putTm, upd, Act.put]
    by_cases e : t = d
    · subst e
      simp [hsz, hd]
      exact hv
    · simp only [if_neg e]
      have : (a.tmps.setIfInBounds d v).getD t undef = a.tmps.getD t undef := by
        simp [Array.getElem?_setIfInBounds_ne (Ne.symm e)]
      rw [this]
      exact h t

theorem put_size {dst : Option Tmp} {v : Value} : (a.put dst v).tmps.size = a.tmps.size := by cases dst <;> simp [Act.put]
theorem put_defers {dst : Option Tmp} {v : Value} : (a.put dst v).defers = a.defers := by cases dst <;> rfl

/-- What stands behind an operation that was carried out. -/
theorem RSim.step {k : Nat} {o : Oper} {r : Res} {l : List Nat} {ρ' : Nat → Addr} {A' : Nat → Prop} {v : Value} {w' : World} (hsim : RSim K nt base L ρ A s a w) (hd : dstOk nt o.dst = true) (hk : ¬ L k)
    (hlen : r.news.length ≤ 32) (howns : ownAll s.hp r.wrs = true) (hext : Ext (base + 32 * k) ρ A ρ' A') (hs' : HSim ρ' A' (applyRes s.hp (base + 32 * k) r) w') (hv : R ρ' A' r.val v)
    (hfr : Fr (fun k => ∃ i, (∃ ob, (i, ob) ∈ r.wrs) ∧ k = (ρ i).block) w w')
    (hnew : ∀ i, A' i → ¬ A i → w.heap.size ≤ (ρ' i).block ∨ ∃ j, (∃ ob, (j, ob) ∈ r.wrs) ∧ (ρ' i).block = (ρ j).block) :
    RSim K nt base (fun j => L j ∨ j = k) ρ' A' (Out.app ⟨r.asm, r.need, l, r.val, r.wrs ++ newPairs (base + 32 * k) r.news⟩ o.dst s) (a.put o.dst v) w' := by
  have hfresh : ∀ j, base + 32 * k ≤ j → j < base + 32 * k + 32 → ¬ A j := by
    intro j h1 h2 hA
    rcases hsim.bd j hA with hb | ⟨i, hL, h3, h4⟩
    · omega
    · have : i = k := by omega
      exact hk (this ▸ hL)
  have bdMono : ∀ i, A i → i < base ∨ ∃ j, (L j ∨ j = k) ∧ base + 32 * j ≤ i ∧ i < base + 32 * j + 32 := by
    intro i hA
    rcases hsim.bd i hA with hb | ⟨j, hL, h3⟩
    · exact .inl hb
    · exact .inr ⟨j, .inl hL, h3⟩
  have hown := ownAll_spec howns
  refine ⟨?_, by rw [put_defers]; exact hsim.df, by rw [put_size]; exact hsim.sz, R_put hd hsim.sz (fun t => R.mono hext.same hext.grow (hsim.tm t)) hv, ?_, ?_, ?_, ?_⟩
  · simp only [Out.app]; rw [← applyRes_eq]; exact hs'
  · intro i hA'
    rcases hext.bound i hA' with hA | ⟨h1, h2⟩
    · exact bdMono i hA
    · exact .inr ⟨k, .inr rfl, h1, h2⟩
  · intro i b hb ho
    simp only [Out.app] at hb
    rw [← applyRes_eq] at hb
    have hA' := hs'.dom i b hb
    by_cases hA : A i
    · rw [hext.same i hA]
      by_cases hin : i ∈ (r.wrs ++ newPairs (base + 32 * k) r.news).map (·.1)
      · obtain ⟨⟨i', ob⟩, hm, rfl⟩ := List.mem_map.1 hin
        rcases List.mem_append.1 hm with hm | hm
        · obtain ⟨b', hb', ho'⟩ := hown i' ob hm
          exact hsim.fp i' b' hb' ho'
        · exfalso
          have : ∀ (l : List Blk) (f : Nat), (i', ob) ∈ newPairs f l → f ≤ i' ∧ i' < f + l.length := by
            intro l
            induction l with
            | nil => intro f h; simp [newPairs] at h
            | cons b r ih =>
              intro f h
              simp only [newPairs, List.mem_cons, Prod.mk.injEq] at h
              rcases h with ⟨rfl, _⟩ | h
              · simp
              · have := ih (f + 1) h; simp; omega
          have := this _ _ hm
          exact hfresh i' this.1 (by omega) hA
      · rw [applyRes_eq, applyWrs_other _ _ _ hin] at hb
        exact hsim.fp i b hb ho
    · rcases hnew i hA' hA with hge | ⟨j, ⟨ob, hj⟩, he⟩
      · right; exact Nat.le_trans hsim.fr.size hge
      · rw [he]
        obtain ⟨b', hb', ho'⟩ := hown j ob hj
        exact hsim.fp j b' hb' ho'
  · refine hsim.fr.trans' hfr fun i hlt hD => ?_
    obtain ⟨j, ⟨ob, hj⟩, rfl⟩ := hD
    obtain ⟨b', hb', ho'⟩ := hown j ob hj
    rcases hsim.fp j b' hb' ho' with hD | hge
    · exact hD
    · omega
  · intro i hi
    obtain ⟨h1, h2⟩ := hsim.ex i hi
    exact ⟨hext.grow i h1, by rw [hext.same i h1]; exact h2⟩

/-- One operation of a region. -/
theorem stepO_ok (hE : EnvOk E) {ops : Array Oper} {k : Nat} {o : Oper} {Kn : Act → World → Prop} {Q : Exit → Act → World → Prop} (hi : ops[k]? = some o) (hsim : RSim K nt base L ρ A s a w) (hk : ¬ L k)
    (h : ∀ c, ∃ out, stepO E ops nt (base + 32 * k) c o s = some out ∧ ((∀ p ∈ out.asm, p) → (∀ p ∈ out.need, p) ∧
      ∀ ρ' A' a' w', RSim K nt base (fun j => L j ∨ j = k) ρ' A' (out.app o.dst s) a' w' → Kn a' w')) : wpOp E.P ops Q k Kn a w := by
  unfold wpOp
  simp only [hi]
  obtain ⟨out0, h0, _⟩ := h 0
  have hd : dstOk nt o.dst = true := by
    unfold stepO at h0
    split at h0
    · assumption
    · cases h0
  simp only [stepO, hd, if_true] at h h0
  obtain ⟨g1, g2, g3⟩ := gdOf_spec (ops := ops) (o := o) hsim.tm
  have hfresh : ∀ j, base + 32 * k ≤ j → j < base + 32 * k + 32 → ¬ A j := by
    intro j h1 h2 hA
    rcases hsim.bd j hA with hb | ⟨i, hL, h3, h4⟩
    · omega
    · have : i = k := by omega
      exact hk (this ▸ hL)
  have bdMono : ∀ i, A i → i < base ∨ ∃ j, (L j ∨ j = k) ∧ base + 32 * j ≤ i ∧ i < base + 32 * j + 32 := by
    intro i hA
    rcases hsim.bd i hA with hb | ⟨j, hL, h3⟩
    · exact .inl hb
    · exact .inr ⟨j, .inl hL, h3⟩
  have same : ∀ (out : Out) (sv : SV) (v : Value), out.wr = [] → out.val = sv → R ρ A sv v → RSim K nt base (fun j => L j ∨ j = k) ρ A (out.app o.dst s) (a.put o.dst v) w := by
    intro out sv v hw hv hr
    subst hv
    refine ⟨?_, by rw [put_defers]; exact hsim.df, by rw [put_size]; exact hsim.sz, R_put hd hsim.sz hsim.tm hr, bdMono, ?_, hsim.fr, hsim.ex⟩
    · simp only [Out.app, hw, applyWrs]; exact hsim.hs
    · simp only [Out.app, hw, applyWrs]; exact hsim.fp
  cases hg : gdOf ops s.tm o with
  | bad => rw [hg] at h0; cases h0
  | no =>
    rw [g2 hg]
    simp only [Bool.false_eq_true, if_false]
    rw [hg] at h0
    simp only [Option.some.injEq] at h0
    subst h0
    obtain ⟨out, ho, hp⟩ := h 0
    rw [hg] at ho
    simp only [Option.some.injEq] at ho
    subst ho
    exact (hp (by simp)).2 ρ A _ w (same _ (.tup []) undef rfl rfl ⟨by simp, rfl⟩)
  | yes =>
    rw [g1 hg]
    simp only [if_true]
    left
    refine opx_ok hE hsim.hs (R_ov hsim.tm) hfresh fun c => ?_
    obtain ⟨out, ho, hp⟩ := h c
    rw [hg] at ho
    simp only [] at ho
    cases hr : (opx E o.op (ovOf s.tm) (base + 32 * k) c).run s.hp with
    | none => rw [hr] at ho; cases ho
    | some q =>
      obtain ⟨r, l⟩ := q
      rw [hr] at ho
      simp only [] at ho
      split at ho
      · rename_i hc
        simp only [Bool.and_eq_true, decide_eq_true_eq] at hc
        simp only [Option.some.injEq] at ho
        subst ho
        refine ⟨r, l, rfl, fun ha => ?_⟩
        obtain ⟨hn, hkk⟩ := hp ha
        refine ⟨hn, fun ρ' A' v w' hext hs' hv hfr hnew => hkk ρ' A' _ w' ?_⟩
        exact hsim.step hd hk hc.1 hc.2 hext hs' hv hfr hnew
      · cases ho
  | dyn g =>
    rw [g3 g hg]
    have hout : ∀ c, ∃ ns v l, (opx E o.op (ovG (gTmps o.op) s.tm) (base + 32 * k) c).run s.hp = some (⟨[], ns, .ev v, [], []⟩, l) ∧ (∀ p ∈ ((ns.map fun p => (g = true → p)) ++ grdNeeds g s.tm (gTmps o.op)), p) ∧
        ∀ ρ' A' a' w', RSim K nt base (fun j => L j ∨ j = k) ρ' A' (Out.app ⟨[], (ns.map fun p => (g = true → p)) ++ grdNeeds g s.tm (gTmps o.op), l, .grd g v, []⟩ o.dst s) a' w' → Kn a' w' := by
      intro c
      obtain ⟨out, ho, hp⟩ := h c
      rw [hg] at ho
      simp only [] at ho
      split at ho
      · rename_i ns v l hr
        simp only [Option.some.injEq] at ho
        subst ho
        obtain ⟨h1, h2⟩ := hp (by simp)
        exact ⟨ns, v, l, hr, h1, h2⟩
      · cases ho
    cases g with
    | false =>
      simp only [Bool.false_eq_true, if_false]
      obtain ⟨ns, v, l, hr, hn, hkk⟩ := hout 0
      exact hkk ρ A _ w (same _ (.grd false v) undef rfl rfl ⟨(fun h => by cases h), fun _ => rfl⟩)
    | true =>
      simp only [if_true]
      left
      obtain ⟨ns0, v0, l0, hr0, hn0, _⟩ := hout 0
      refine opx_ok hE hsim.hs (R_ovG hsim.tm rfl (l := gTmps o.op) (fun p hp => hn0 p (List.mem_append.2 (.inr hp)))) hfresh fun c => ?_
      obtain ⟨ns, v, l, hr, hn, hkk⟩ := hout c
      refine ⟨_, l, hr, fun _ => ⟨fun p hp => ?_, fun ρ' A' u w' hext hs' hv hfr hnew => ?_⟩⟩
      · exact hn (true = true → p) (List.mem_append.2 (.inl (List.mem_map.2 ⟨p, hp, rfl⟩))) rfl
      · refine hkk ρ' A' _ w' ⟨?_, by rw [put_defers]; exact hsim.df, by rw [put_size]; exact hsim.sz, R_put hd hsim.sz (fun t => R.mono hext.same hext.grow (hsim.tm t)) ⟨fun _ => hv, (fun h => by cases h)⟩, ?_, ?_, ?_, ?_⟩
        · simpa [Out.app, applyWrs, applyRes, applyNews] using hs'
        · intro i hA'
          rcases hext.bound i hA' with hA | ⟨h1, h2⟩
          · exact bdMono i hA
          · exact .inr ⟨k, .inr rfl, h1, h2⟩
        · intro i b hb ho
          simp only [Out.app, applyWrs] at hb
          have hA := hsim.hs.dom i b hb
          rw [hext.same i hA]
          exact hsim.fp i b hb ho
        · exact hsim.fr.trans' hfr fun i _ hD => by obtain ⟨j, ⟨ob, hj⟩, _⟩ := hD; simp at hj
        · intro i hi
          obtain ⟨h1, h2⟩ := hsim.ex i hi
          exact ⟨hext.grow i h1, by rw [hext.same i h1]; exact h2⟩

end
end Go.X
