import Derived.Test.YtbblenohgednjaaX14
/- A part of the walking machine: shown once for every program of the model; no condition of its own. -/
/- Regions whose order is drawn: one walk serves every order. -/
namespace Go.X

def bound (ops : Array Oper) (j i : Nat) : Bool := match ops[j]? with
  | some o => o.after.any fun e => Region.binds .any e && e.on == i
  | none => false

def apartAt (ops : Array Oper) (i j : Nat) : Bool := match ops[i]?, ops[j]? with
  | some x, some y => x.apart ops y
  | _, _ => false

/-- What an operation writes and reads. -/
structure FP where
  k : Nat
  w : List Nat
  r : List Nat
  deriving DecidableEq

def fpOf (x : Nat × Out) : FP := ⟨x.1, x.2.wids, x.2.rds⟩

def disjL (a b : List Nat) : Bool := a.all fun x => !b.contains x
def FP.disj (x y : FP) : Bool := disjL x.w y.w && disjL x.w y.r && disjL y.w x.r

def pairsOk (ops : Array Oper) : List FP → Bool
  | [] => true
  | x :: r => r.all (fun y => bound ops y.k x.k || (apartAt ops x.k y.k && x.disj y)) && pairsOk ops r

def edgesIn (ops : Array Oper) (seen : List Nat) (k : Nat) : Bool := match ops[k]? with
  | some o => o.after.all fun e => !Region.binds .any e || seen.contains e.on
  | none => false

def ordOk (ops : Array Oper) : List Nat → List Nat → Bool
  | seen, [] => (List.range ops.size).all (seen.contains ·)
  | seen, k :: r => !seen.contains k && edgesIn ops seen k && ordOk ops (k :: seen) r

structure Order (ops : Array Oper) (ord : List Nat) : Prop where
  nd : ord.Nodup
  full : ∀ k, k < ops.size → k ∈ ord
  lt : ∀ k ∈ ord, k < ops.size
  edge : ∀ pre k post, ord = pre ++ k :: post → ∀ j, bound ops k j = true → j ∈ pre

theorem ordOk_spec {ops : Array Oper} : ∀ {ord seen : List Nat}, ordOk ops seen ord = true → ord.Nodup ∧ (∀ k ∈ ord, k ∉ seen) ∧ (∀ k, k < ops.size → k ∈ seen ∨ k ∈ ord) ∧ (∀ k ∈ ord, k < ops.size) ∧
    ∀ pre k post, ord = pre ++ k :: post → ∀ j, bound ops k j = true → j ∈ seen ∨ j ∈ pre
  | [], seen, h => by
    simp only [ordOk, List.all_eq_true, List.mem_range, List.contains_iff_mem] at h
    exact ⟨List.nodup_nil, by simp, fun k hk => .inl (h k hk), by simp, fun pre k post e => by simp at e⟩
  | x :: r, seen, h => by
    simp only [ordOk, Bool.and_eq_true, Bool.not_eq_true'] at h
    obtain ⟨⟨h1, h2⟩, h3⟩ := h
    have h1' : x ∉ seen := by simpa using h1
    obtain ⟨i1, i2, i3, i4, i5⟩ := ordOk_spec h3
    refine ⟨List.nodup_cons.2 ⟨fun hx => i2 x hx (by simp), i1⟩, ?_, ?_, ?_, ?_⟩
    · intro k hk
      rcases List.mem_cons.1 hk with rfl | hk
      · exact h1'
      · exact fun hs => i2 k hk (by simp [hs])
    · intro k hk
      rcases i3 k hk with hs | hs
      · rcases List.mem_cons.1 hs with rfl | hs
        · right; simp
        · exact .inl hs
      · right; simp [hs]
    · intro k hk
      rcases List.mem_cons.1 hk with rfl | hk
      · unfold edgesIn at h2
        cases ho : ops[k]? with
        | none => rw [ho] at h2; cases h2
        | some o => exact (Array.getElem?_eq_some_iff.1 ho).1
      · exact i4 k hk
    · intro pre k post e j hb
      cases pre with
      | nil =>
        simp at e
        obtain ⟨rfl, rfl⟩ := e
        left
        unfold edgesIn at h2
        unfold bound at hb
        cases ho : ops[x]? with
        | none => rw [ho] at hb; cases hb
        | some o =>
          rw [ho] at h2 hb
          obtain ⟨e, he, hb⟩ := Array.any_eq_true'.1 hb
          simp only [Bool.and_eq_true, beq_iff_eq] at hb
          have := Array.all_eq_true_iff_forall_mem.1 h2 e he
          simp only [hb.1, Bool.not_true, Bool.false_or, List.contains_iff_mem] at this
          exact hb.2 ▸ this
      | cons y pre =>
        simp at e
        obtain ⟨rfl, e⟩ := e
        rcases i5 pre k post e j hb with hs | hs
        · rcases List.mem_cons.1 hs with rfl | hs
          · right; simp
          · exact .inl hs
        · right; simp [hs]

theorem ordOk_order {ops : Array Oper} {ord : List Nat} (h : ordOk ops [] ord = true) : Order ops ord := by
  obtain ⟨h1, _, h3, h4, h5⟩ := ordOk_spec h
  exact ⟨h1, fun k hk => (h3 k hk).resolve_left (by simp), h4, fun pre k post e j hb => (h5 pre k post e j hb).resolve_left (by simp)⟩

/-- Two operations that may come in either order. -/
structure Free (ops : Array Oper) (W Rr : Nat → List Nat) (i j : Nat) : Prop where
  l : ∀ d, dstAt ops i = some d → ∀ o, ops[j]? = some o → d ∉ o.looksAt ops
  r : ∀ d, dstAt ops j = some d → ∀ o, ops[i]? = some o → d ∉ o.looksAt ops
  d : ∀ d, dstAt ops i = some d → dstAt ops j ≠ some d
  ww : ∀ x ∈ W i, x ∉ W j
  wr : ∀ x ∈ W i, x ∉ Rr j
  rw : ∀ x ∈ W j, x ∉ Rr i

theorem Free.symm {ops : Array Oper} {W Rr : Nat → List Nat} {i j : Nat} (h : Free ops W Rr i j) : Free ops W Rr j i :=
  ⟨h.r, h.l, fun d h1 h2 => h.d d h2 h1, fun x h1 h2 => h.ww x h2 h1, h.rw, h.wr⟩

theorem disjL_spec {a b : List Nat} (h : disjL a b = true) : ∀ x ∈ a, x ∉ b := by
  intro x hx hb
  have := List.all_eq_true.1 h x hx
  simp [hb] at this

theorem pairsOk_spec {ops : Array Oper} {W Rr : Nat → List Nat} : ∀ {l : List FP}, pairsOk ops l = true → (∀ x ∈ l, W x.k = x.w ∧ Rr x.k = x.r) → ∀ pre i post, l.map (·.k) = pre ++ i :: post → ∀ j ∈ post, bound ops j i = true ∨ Free ops W Rr i j
  | [], _, _, pre, i, post, e => by simp at e
  | x :: r, h, hf, pre, i, post, e => by
    simp only [pairsOk, Bool.and_eq_true] at h
    cases pre with
    | nil =>
      simp at e
      obtain ⟨rfl, rfl⟩ := e
      intro j hj
      obtain ⟨y, hy, rfl⟩ := List.mem_map.1 hj
      have := List.all_eq_true.1 h.1 y hy
      simp only [Bool.or_eq_true, Bool.and_eq_true] at this
      refine this.imp id fun ⟨ha, hd⟩ => ?_
      obtain ⟨w1, r1⟩ := hf x (by simp)
      obtain ⟨w2, r2⟩ := hf y (by simp [hy])
      unfold apartAt at ha
      simp only [FP.disj, Bool.and_eq_true] at hd
      cases h1 : ops[x.k]? with
      | none => rw [h1] at ha; cases ha
      | some ox =>
        cases h2 : ops[y.k]? with
        | none => rw [h1, h2] at ha; cases ha
        | some oy =>
          rw [h1, h2] at ha
          obtain ⟨a1, a2, a3⟩ := Oper.apart_spec ha
          refine ⟨?_, ?_, ?_, ?_, ?_, ?_⟩
          · intro d hd' o ho; simp [dstAt, h1] at hd'; rw [h2] at ho; cases ho; exact a1 d hd'
          · intro d hd' o ho; simp [dstAt, h2] at hd'; rw [h1] at ho; cases ho; exact a3 d hd'
          · intro d hd'; simp [dstAt, h1] at hd'; simp [dstAt, h2]; exact a2 d hd'
          · rw [w1, w2]; exact disjL_spec hd.1.1
          · rw [w1, r2]; exact disjL_spec hd.1.2
          · rw [w2, r1]; exact disjL_spec hd.2
    | cons y pre =>
      simp at e
      obtain ⟨rfl, e⟩ := e
      exact pairsOk_spec h.2 (fun z hz => hf z (by simp [hz])) pre i post e

section
variable {E : Env} {ops : Array Oper} {nt base : Nat} {ord : List Nat} {s0 : S} {W Rr : Nat → List Nat}

structure Good (E : Env) (ops : Array Oper) (nt base : Nat) (ord : List Nat) (s0 : S) (W Rr : Nat → List Nat) (cs : Nat → Nat) (o : Nat → Out) : Prop where
  step : ∀ pre k post, ord = pre ++ k :: post → ∃ op, ops[k]? = some op ∧ stepO E ops nt (base + 32 * k) (cs k) op (acc ops o (fun _ => true) pre s0) = some (o k)
  fp : ∀ k ∈ ord, (o k).wids = W k ∧ (o k).rds = Rr k

def Pairs (ops : Array Oper) (ord : List Nat) (W Rr : Nat → List Nat) : Prop :=
  ∀ pre i post, ord = pre ++ i :: post → ∀ j ∈ post, bound ops j i = true ∨ Free ops W Rr i j

structure Closed (ops : Array Oper) (ord : List Nat) (L : Nat → Bool) : Prop where
  ord : ∀ k, L k = true → k ∈ ord
  down : ∀ k j, L k = true → bound ops k j = true → L j = true

theorem split_at {l : List Nat} {k : Nat} (h : k ∈ l) : ∃ pre post, l = pre ++ k :: post := List.append_of_mem h

theorem tri (hp : Pairs ops ord W Rr) {pre post : List Nat} {i j : Nat} (e : ord = pre ++ i :: post) (hj : j ∈ ord) (hne : i ≠ j) :
    (j ∈ post ∧ (bound ops j i = true ∨ Free ops W Rr i j)) ∨ (j ∈ pre ∧ (bound ops i j = true ∨ Free ops W Rr i j)) := by
  rw [e] at hj
  rcases List.mem_append.1 hj with hj | hj
  · right
    refine ⟨hj, ?_⟩
    obtain ⟨p1, p2, rfl⟩ := split_at hj
    have := hp p1 j (p2 ++ i :: post) (by rw [e]; simp) i (by simp)
    exact this.imp id Free.symm
  · rcases List.mem_cons.1 hj with rfl | hj
    · exact absurd rfl hne
    · exact .inl ⟨hj, hp pre i post e j hj⟩

theorem same_outs (hO : Order ops ord) (hp : Pairs ops ord W Rr) {cs cs' : Nat → Nat} {o o' : Nat → Out} (hg : Good E ops nt base ord s0 W Rr cs o) (hg' : Good E ops nt base ord s0 W Rr cs' o') {L : Nat → Bool} (hL : Closed ops ord L)
    (hcs : ∀ k, L k = true → cs k = cs' k) : ∀ (n : Nat) (pre : List Nat) (k : Nat) (post : List Nat), pre.length = n → ord = pre ++ k :: post → L k = true → o k = o' k := by
  intro n
  induction n using Nat.strongRecOn with
  | ind n ih =>
    intro pre k post hn e hLk
    obtain ⟨op, h1, h2⟩ := hg.step pre k post e
    obtain ⟨op', h1', h2'⟩ := hg'.step pre k post e
    rw [h1] at h1'; cases h1'
    have hk : k ∈ ord := by rw [e]; simp
    have hnd : k ∉ pre := by
      have := hO.nd
      rw [e, List.nodup_append] at this
      exact fun hx => this.2.2 k hx k (by simp) rfl
    have below : ∀ j ∈ pre, bound ops k j = true → o j = o' j := by
      intro j hj hb
      obtain ⟨p1, p2, rfl⟩ := split_at hj
      refine ih p1.length ?_ p1 j (p2 ++ k :: post) rfl (by rw [e]; simp) (hL.down k j hLk hb)
      subst hn; simp
    have pairAt : ∀ j ∈ pre, bound ops k j = true ∨ Free ops W Rr k j := by
      intro j hj
      have hne : k ≠ j := fun x => hnd (x ▸ hj)
      rcases tri hp e (by rw [e]; simp [hj]) hne with ⟨hpo, _⟩ | ⟨_, h⟩
      · exfalso
        have := hO.nd
        rw [e, List.nodup_append] at this
        exact this.2.2 j hj j (by simp [hpo]) rfl
      · exact h
    have := stepO_congr (s' := acc ops o' (fun _ => true) pre s0) h2 ?_ ?_
    · rw [hcs k hLk, h2'] at this
      exact (Option.some.inj this).symm
    · intro t ht
      refine (acc_tm (fun j hj hd => ⟨rfl, fun _ => ?_⟩) rfl).symm
      rcases pairAt j hj with hb | hf
      · exact below j hj hb
      · exact absurd ht (hf.r t hd op h1)
    · intro i hi
      refine (acc_hp (fun j hj hd => ⟨rfl, ?_⟩) rfl).symm
      have hjo : j ∈ ord := by rw [e]; simp [hj]
      have hw : i ∈ W j := by
        rcases hd with ⟨_, hd⟩ | ⟨_, hd⟩
        · rw [← (hg.fp j hjo).1]; exact hd
        · rw [← (hg'.fp j hjo).1]; exact hd
      rcases pairAt j hj with hb | hf
      · exact below j hj hb
      · exfalso
        rcases hi with hi | hi
        · rw [(hg.fp k hk).2] at hi; exact hf.rw i hw hi
        · rw [(hg.fp k hk).1] at hi; exact hf.ww i hi hw

theorem acc_all {o : Nat → Out} {p : Nat → Bool} : ∀ {l : List Nat} {s : S}, (∀ k ∈ l, p k = true) → acc ops o p l s = acc ops o (fun _ => true) l s
  | [], _, _ => rfl
  | k :: r, s, h => by simp only [acc, h k (by simp), if_true]; exact acc_all fun j hj => h j (by simp [hj])

theorem acc_none {o : Nat → Out} {p : Nat → Bool} : ∀ {l : List Nat} {s : S}, (∀ k ∈ l, p k = false) → acc ops o p l s = s
  | [], _, _ => rfl
  | k :: r, s, h => by simp only [acc, h k (by simp), Bool.false_eq_true, if_false]; exact acc_none fun j hj => h j (by simp [hj])

theorem acc_congr {o o' : Nat → Out} {p : Nat → Bool} : ∀ {l : List Nat} {s : S}, (∀ k ∈ l, p k = true → o k = o' k) → acc ops o p l s = acc ops o' p l s
  | [], _, _ => rfl
  | k :: r, s, h => by
    simp only [acc]
    have : (if p k = true then (o k).app (dstAt ops k) s else s) = (if p k = true then (o' k).app (dstAt ops k) s else s) := by
      split
      · rename_i hp; rw [h k (by simp) hp]
      · rfl
    rw [this]
    exact acc_congr fun j hj => h j (by simp [hj])

theorem nodup_split (hO : Order ops ord) {pre post : List Nat} {i : Nat} (e : ord = pre ++ i :: post) : i ∉ pre ∧ i ∉ post ∧ ∀ k ∈ pre, k ∉ post := by
  have := hO.nd
  rw [e, List.nodup_append] at this
  obtain ⟨h1, h2, h3⟩ := this
  exact ⟨fun h => h3 i h i (by simp) rfl, (List.nodup_cons.1 h2).1, fun k h h' => h3 k h k (by simp [h']) rfl⟩

theorem take_step (hO : Order ops ord) (hp : Pairs ops ord W Rr) {cs : Nat → Nat} {o : Nat → Out} (hg : Good E ops nt base ord s0 W Rr cs o) {L : Nat → Bool} (hL : Closed ops ord L) {i : Nat} (hi : i ∈ ord) (hLi : L i = false)
    (hr : ∀ j, bound ops i j = true → L j = true) : ∃ op, ops[i]? = some op ∧ stepO E ops nt (base + 32 * i) (cs i) op (acc ops o L ord s0) = some (o i) := by
  obtain ⟨pre, post, e⟩ := split_at hi
  obtain ⟨op, h1, h2⟩ := hg.step pre i post e
  obtain ⟨n1, n2, n3⟩ := nodup_split hO e
  refine ⟨op, h1, ?_⟩
  have e0 : acc ops o (fun _ => true) pre s0 = acc ops o (fun k => pre.contains k) ord s0 := by
    have a1 : ∀ k ∈ pre, pre.contains k = true := fun k hk => by simpa using hk
    have a2 : ∀ k ∈ i :: post, pre.contains k = false := by
      intro k hk
      rcases List.mem_cons.1 hk with rfl | hk
      · simpa using n1
      · have : k ∉ pre := fun h => n3 k h hk
        simpa using this
    rw [e, acc_append, acc_none a2, acc_all a1]
  rw [e0] at h2
  have key : ∀ k ∈ ord, k ≠ i → (bound ops k i = true ∨ bound ops i k = true ∨ Free ops W Rr i k) → ¬ Free ops W Rr i k → L k = pre.contains k := by
    intro k hk hne hor hnf
    rcases tri hp e hk (Ne.symm hne) with ⟨hpo, h⟩ | ⟨hpr, h⟩
    · have hb := h.resolve_right hnf
      have hnp : k ∉ pre := fun h => n3 k h hpo
      have : L k = false := by
        cases hk' : L k with
        | false => rfl
        | true => rw [hL.down k i hk' hb] at hLi; cases hLi
      rw [this]; simpa using hnp
    · have hb := h.resolve_right hnf
      rw [hr k hb]; simpa using hpr
  have key' : ∀ k ∈ ord, k ≠ i → ¬ Free ops W Rr i k → L k = pre.contains k := by
    intro k hk hne hnf
    refine key k hk hne ?_ hnf
    rcases tri hp e hk (Ne.symm hne) with ⟨_, h⟩ | ⟨_, h⟩
    · exact h.elim .inl fun h => .inr (.inr h)
    · exact h.elim (fun h => .inr (.inl h)) fun h => .inr (.inr h)
  have keyi : L i = pre.contains i := by rw [hLi]; simpa using n1
  refine stepO_congr h2 ?_ ?_
  · intro t ht
    refine acc_tm (fun k hk hd => ⟨?_, fun _ => rfl⟩) rfl
    by_cases hne : k = i
    · rw [hne]; exact keyi
    · exact key' k hk hne fun hf => hf.r t hd op h1 ht
  · intro x hx
    refine acc_hp (fun k hk hd => ⟨?_, rfl⟩) rfl
    by_cases hne : k = i
    · rw [hne]; exact keyi
    · have hw : x ∈ W k := by
        rcases hd with ⟨_, hd⟩ | ⟨_, hd⟩ <;> rw [(hg.fp k hk).1] at hd <;> exact hd
      refine key' k hk hne fun hf => ?_
      rcases hx with hx | hx
      · rw [(hg.fp i hi).2] at hx; exact hf.rw x hw hx
      · rw [(hg.fp i hi).1] at hx; exact hf.ww x hx hw

theorem S.ext' {s s' : S} (h1 : ∀ t, s.tm t = s'.tm t) (h2 : ∀ i, s.hp i = s'.hp i) : s = s' := by
  obtain ⟨tm, hp⟩ := s
  obtain ⟨tm', hp'⟩ := s'
  simp only [S.mk.injEq]
  exact ⟨funext h1, funext h2⟩

theorem take_acc (hO : Order ops ord) (hp : Pairs ops ord W Rr) {o : Nat → Out} (hw : ∀ k ∈ ord, (o k).wids = W k) {L : Nat → Bool} (hL : Closed ops ord L) {i : Nat} (hi : i ∈ ord) (hLi : L i = false) :
    acc ops o (upd L i true) ord s0 = (o i).app (dstAt ops i) (acc ops o L ord s0) := by
  obtain ⟨pre, post, e⟩ := split_at hi
  obtain ⟨n1, n2, n3⟩ := nodup_split hO e
  have hpost : ∀ k ∈ post, L k = true → Free ops W Rr i k := by
    intro k hk hLk
    refine (hp pre i post e k hk).resolve_left fun hb => ?_
    rw [hL.down k i hLk hb] at hLi; cases hLi
  have hne : ∀ k ∈ post, k ≠ i := fun k hk h => n2 (h ▸ hk)
  have hsplit : acc ops o (upd L i true) ord s0 = acc ops o (upd L i true) post ((o i).app (dstAt ops i) (acc ops o (upd L i true) pre s0)) := by
    rw [e, acc_append]; simp [acc, upd]
  refine S.ext' (fun t => ?_) (fun x => ?_)
  · by_cases hd : dstAt ops i = some t
    · rw [hsplit, hd, app_tm_eq]
      rw [acc_tm (o' := o) (q := fun _ => false) (s' := (o i).app (some t) (acc ops o (upd L i true) pre s0)) (fun k hk hk' => ?_) rfl, acc_none (fun _ _ => rfl), app_tm_eq]
      refine ⟨?_, fun _ => rfl⟩
      simp only [upd, if_neg (hne k hk)]
      cases hLk : L k with
      | false => rfl
      | true => exact absurd hk' ((hpost k hk hLk).d t hd)
    · rw [app_tm_ne hd]
      refine acc_tm (fun k hk hk' => ⟨?_, fun _ => rfl⟩) rfl
      have : k ≠ i := fun h => hd (h ▸ hk')
      simp [upd, this]
  · by_cases hx : x ∈ (o i).wids
    · rw [hsplit]
      rw [acc_hp (o' := o) (q := fun _ => false) (s' := (o i).app (dstAt ops i) (acc ops o (upd L i true) pre s0)) (fun k hk hk' => ?_) rfl, acc_none (fun _ _ => rfl)]
      · exact applyWrs_in _ _ _ hx
      · refine ⟨?_, rfl⟩
        rcases hk' with ⟨h1, h2⟩ | ⟨h1, _⟩
        · simp only [upd, if_neg (hne k hk)] at h1
          have hko : k ∈ ord := by rw [e]; simp [hk]
          rw [hw k hko] at h2
          rw [hw i hi] at hx
          exact absurd h2 ((hpost k hk h1).ww x hx)
        · cases h1
    · have : ((o i).app (dstAt ops i) (acc ops o L ord s0)).hp x = (acc ops o L ord s0).hp x := applyWrs_other _ _ _ hx
      rw [this]
      refine acc_hp (fun k hk hk' => ⟨?_, rfl⟩) rfl
      by_cases h : k = i
      · subst h
        rcases hk' with ⟨_, h2⟩ | ⟨_, h2⟩ <;> exact absurd h2 hx
      · simp [upd, h]
end
end Go.X
