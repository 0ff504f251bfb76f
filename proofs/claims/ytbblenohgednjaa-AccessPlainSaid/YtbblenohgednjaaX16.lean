import Derived.Test.YtbblenohgednjaaX15
/- A part of the walking machine: shown once for every program of the model; no condition of its own. -/
/- A region whose order is drawn, as a tree. -/
namespace Go.X

section
variable {E : Env} {ops : Array Oper} {nt base : Nat} {ord : List Nat} {s0 : S} {W Rr : Nat → List Nat}

theorem countP_upd {L : Nat → Bool} {i : Nat} : ∀ {l : List Nat}, i ∈ l → L i = false → l.countP (fun k => !(upd L i true) k) < l.countP (fun k => !L k)
  | [], h, _ => by simp at h
  | x :: r, h, hL => by
    have mono : ∀ l : List Nat, l.countP (fun k => !(upd L i true) k) ≤ l.countP (fun k => !L k) := by
      intro l
      refine List.countP_mono_left fun k _ hk => ?_
      by_cases e : k = i
      · subst e; simp [upd] at hk
      · simpa [upd, e] using hk
    simp only [List.countP_cons]
    by_cases e : x = i
    · subst e
      have := mono r
      have e1 : (!(upd L x true) x) = false := by simp [upd]
      have e2 : (!L x) = true := by simp [hL]
      simp only [e1, e2, Bool.false_eq_true, if_false, if_true]
      omega
    · have hr : i ∈ r := by
        rcases List.mem_cons.1 h with rfl | h
        · exact absurd rfl e
        · exact h
      have := countP_upd hr hL
      simp only [upd, if_neg e]
      simp only [upd] at this
      omega

theorem bound_edge {k : Nat} {o : Oper} (ho : ops[k]? = some o) {e : Edge} (he : e ∈ o.after) (hb : Region.binds .any e = true) : bound ops k e.on = true := by
  unfold bound
  rw [ho]
  exact Array.any_eq_true'.2 ⟨e, he, by simp [hb]⟩

theorem bound_edge' {k j : Nat} {o : Oper} (ho : ops[k]? = some o) (h : bound ops k j = true) : ∃ e ∈ o.after, Region.binds .any e = true ∧ e.on = j := by
  unfold bound at h
  rw [ho] at h
  obtain ⟨e, he, hb⟩ := Array.any_eq_true'.1 h
  simp only [Bool.and_eq_true, beq_iff_eq] at hb
  exact ⟨e, he, hb⟩

/-- What is asked of every choice. -/
def Hyp (E : Env) (ops : Array Oper) (nt base : Nat) (ord : List Nat) (s0 : S) (W Rr : Nat → List Nat) (F : S → Prop) : Prop :=
  ∀ cs, ∃ o, Good E ops nt base ord s0 W Rr cs o ∧ (∀ k ∈ ord, ∀ p ∈ (o k).need, p) ∧ ((∀ k ∈ ord, ∀ p ∈ (o k).asm, p) → F (acc ops o (fun _ => true) ord s0))

theorem wpAny_ok (hE : EnvOk E) (hO : Order ops ord) (hp : Pairs ops ord W Rr) {K : Ctx} {Q : Exit → Act → World → Prop}
    (hyp : Hyp E ops nt base ord s0 W Rr (fun s' => ∀ ρ' A' a' w', RSim K nt base (fun j => j < ops.size) ρ' A' s' a' w' → Q .normal a' w')) :
    ∀ (fuel : Nat) (listed : Array Bool) (L : Nat → Bool) (cs : Nat → Nat) (o : Nat → Out) (ρ : Nat → Addr) (A : Nat → Prop) (a : Act) (w : World),
      listed.size = ops.size → (∀ k, k < ops.size → listed.getD k true = L k) → Closed ops ord L → ord.countP (fun k => !L k) ≤ fuel → Good E ops nt base ord s0 W Rr cs o →
      (∀ k, L k = true → ∀ p ∈ (o k).asm, p) → RSim K nt base (fun j => L j = true) ρ A (acc ops o L ord s0) a w → wpAny E.P .any ops Q fuel listed a w := by
  have listedTrue : ∀ (listed : Array Bool) (L : Nat → Bool), listed.size = ops.size → (∀ k, k < ops.size → listed.getD k true = L k) → ∀ k, k < ops.size → (listed.getD k false = true ↔ L k = true) := by
    intro listed L hsz hl k hk
    rw [← hl k hk]
    simp [hsz, hk]
  have done : ∀ (listed : Array Bool) (L : Nat → Bool) (cs : Nat → Nat) (o : Nat → Out) (ρ : Nat → Addr) (A : Nat → Prop) (a : Act) (w : World),
      (∀ k ∈ ord, L k = true) → Good E ops nt base ord s0 W Rr cs o → Closed ops ord L →
      (∀ k, L k = true → ∀ p ∈ (o k).asm, p) → RSim K nt base (fun j => L j = true) ρ A (acc ops o L ord s0) a w → Q .normal a w := by
    intro listed L cs o ρ A a w hall hg hL ha hs
    obtain ⟨o', hg', _, hf⟩ := hyp cs
    have heq : ∀ k ∈ ord, o k = o' k := by
      intro k hk
      obtain ⟨pre, post, e⟩ := split_at hk
      exact same_outs hO hp hg hg' hL (fun _ _ => rfl) _ pre k post rfl e (hall k hk)
    have hacc : acc ops o L ord s0 = acc ops o' (fun _ => true) ord s0 := by
      rw [acc_all hall]; exact acc_congr fun k hk _ => heq k hk
    refine hf (fun k hk p hpp => ha k (hall k hk) p (by rw [heq k hk]; exact hpp)) ρ A a w ?_
    rw [← hacc]
    exact hs.mono fun j hj => hO.lt j (hL.ord j hj)
  have notReady : ∀ (listed : Array Bool) (L : Nat → Bool), listed.size = ops.size → (∀ k, k < ops.size → listed.getD k true = L k) → Closed ops ord L → Region.ready .any ops listed = [] → ∀ k ∈ ord, L k = true := by
    intro listed L hsz hl hL hnil
    have key : ∀ n pre k post, pre.length = n → ord = pre ++ k :: post → L k = true := by
      intro n
      induction n using Nat.strongRecOn with
      | ind n ih =>
        intro pre k post hn e
        cases hk : L k with
        | true => rfl
        | false =>
          exfalso
          have hko : k ∈ ord := by rw [e]; simp
          have hlt := hO.lt k hko
          have : k ∈ Region.ready .any ops listed := by
            rw [mem_ready]
            refine ⟨by rw [hl k hlt, hk], ops[k], by simp [hlt], fun ed hed hb => ?_⟩
            have hbd := bound_edge (Array.getElem?_eq_getElem hlt) hed hb
            have hpre := hO.edge pre k post e _ hbd
            have hin : ed.on ∈ ord := by rw [e]; simp [hpre]
            rw [listedTrue listed L hsz hl _ (hO.lt _ hin)]
            obtain ⟨p1, p2, hp12⟩ := split_at hpre
            refine ih p1.length ?_ p1 ed.on (p2 ++ k :: post) rfl (by rw [e, hp12]; simp)
            subst hn; rw [hp12]; simp only [List.length_append, List.length_cons]; omega
          rw [hnil] at this
          cases this
    intro k hk
    obtain ⟨pre, post, e⟩ := split_at hk
    exact key _ pre k post rfl e
  intro fuel
  induction fuel with
  | zero =>
    intro listed L cs o ρ A a w hsz hl hL hc hg ha hs
    have hall : ∀ k ∈ ord, L k = true := by
      intro k hk
      have := List.countP_eq_zero.1 (Nat.le_zero.1 hc) k hk
      simpa using this
    refine ⟨?_, done listed L cs o ρ A a w hall hg hL ha hs⟩
    cases hr : Region.ready .any ops listed with
    | nil => rfl
    | cons x r =>
      exfalso
      have hx : x ∈ Region.ready .any ops listed := by rw [hr]; simp
      rw [mem_ready] at hx
      obtain ⟨h1, op, h2, _⟩ := hx
      have hlt := (Array.getElem?_eq_some_iff.1 h2).1
      rw [hl x hlt, hall x (hO.full x hlt)] at h1
      cases h1
  | succ fuel ih =>
    intro listed L cs o ρ A a w hsz hl hL hc hg ha hs
    refine ⟨fun hnil => done listed L cs o ρ A a w (notReady listed L hsz hl hL hnil) hg hL ha hs, fun i hi => ?_⟩
    rw [mem_ready] at hi
    obtain ⟨h1, op, h2, hready⟩ := hi
    have hlt := (Array.getElem?_eq_some_iff.1 h2).1
    have hio := hO.full i hlt
    have hLi : L i = false := by rw [← hl i hlt]; exact h1
    have hpred : ∀ j, bound ops i j = true → L j = true := by
      intro j hb
      obtain ⟨ed, hed, hbb, rfl⟩ := bound_edge' h2 hb
      have := hready ed hed hbb
      obtain ⟨pre, post, e⟩ := split_at hio
      have hin : ed.on ∈ ord := by rw [e]; simp [hO.edge pre i post e _ hb]
      exact (listedTrue listed L hsz hl _ (hO.lt _ hin)).1 this
    refine stepO_ok hE h2 hs (by simp [hLi]) fun c => ?_
    obtain ⟨o', hg', hneed, _⟩ := hyp (upd cs i c)
    have heq : ∀ k ∈ ord, L k = true → o k = o' k := by
      intro k hk hLk
      obtain ⟨pre, post, e⟩ := split_at hk
      refine same_outs hO hp hg hg' hL (fun j hj => ?_) _ pre k post rfl e hLk
      have : j ≠ i := fun h => by rw [h, hLi] at hj; cases hj
      simp [upd, this]
    rw [acc_congr heq]
    obtain ⟨op', h2', hst⟩ := take_step hO hp hg' hL hio hLi hpred
    rw [h2] at h2'; cases h2'
    have hci : upd cs i c i = c := by simp [upd]
    rw [hci] at hst
    refine ⟨o' i, hst, fun hasm => ⟨hneed i hio, fun ρ' A' a' w' hs' => ?_⟩⟩
    have hL' : Closed ops ord (upd L i true) := by
      refine ⟨fun k hk => ?_, fun k j hk hb => ?_⟩
      · by_cases e : k = i
        · rw [e]; exact hio
        · simp only [upd, if_neg e] at hk; exact hL.ord k hk
      · have : L j = true := by
          by_cases e : k = i
          · subst e; exact hpred j hb
          · simp only [upd, if_neg e] at hk; exact hL.down k j hk hb
        simp only [upd]; split <;> first | rfl | exact this
    refine ih (listed.setIfInBounds i true) (upd L i true) (upd cs i c) o' ρ' A' a' w' (by simp [hsz]) ?_ hL' ?_ hg' ?_ ?_
    · intro k hk
      by_cases e : k = i
      · subst e; simp [upd, hsz, hk]
      · rw [getD_set_ne true (Ne.symm e), hl k hk]; simp [upd, e]
    · have := countP_upd hio hLi
      omega
    · intro k hk p hpp
      by_cases e : k = i
      · subst e; exact hasm p hpp
      · simp only [upd, if_neg e] at hk
        rw [← heq k (hL.ord k hk) hk] at hpp
        exact ha k hk p hpp
    · rw [take_acc hO hp (fun k hk => (hg'.fp k hk).1) hL hio hLi]
      have hd : dstAt ops i = op.dst := by simp [dstAt, h2]
      rw [hd]
      refine hs'.mono fun j hj => ?_
      rcases hj with hj | rfl
      · simp only [upd]; split <;> first | rfl | exact hj
      · simp [upd]
end

/-! ### As a tree -/
def readyOrd (ops : Array Oper) : Nat → List Nat → List Nat
  | 0, _ => []
  | n + 1, seen => match (List.range ops.size).find? fun k => !seen.contains k && edgesIn ops seen k with
    | some k => k :: readyOrd ops n (k :: seen)
    | none => []

theorem readyOrd_length {ops : Array Oper} : ∀ (n : Nat) (seen : List Nat), (readyOrd ops n seen).length ≤ n
  | 0, _ => Nat.le_refl _
  | n + 1, seen => by
    simp only [readyOrd]
    split
    · have := readyOrd_length (ops := ops) n; simp; exact this _
    · simp

/-- Whether one of them hangs on what is left open. -/
def usesAny (E : Env) (ops : Array Oper) (nt base : Nat) : List Nat → S → Bool
  | [], _ => false
  | k :: r, s => match ops[k]? with
    | none => true
    | some o => usesCs E s.tm o || match stepO E ops nt (base + 32 * k) 0 o s with
      | some out => usesAny E ops nt base r (out.app o.dst s)
      | none => true

def drawT (E : Env) (ops : Array Oper) (nt base : Nat) (s : S) : T S :=
  let ord := readyOrd ops ops.size []
  if ordOk ops [] ord then
    match foldO E ops nt base (fun _ => 0) ord s with
    | none => .fail
    | some (l0, s0) =>
      let fp := l0.map fpOf
      if pairsOk ops fp then
        if usesAny E ops nt base ord s then
          .all fun cs => match foldO E ops nt base cs ord s with
            | none => .fail
            | some (l, s') => if l.map fpOf = fp then needs (l.flatMap (·.2.need)) (asms (l.flatMap (·.2.asm)) (.leaf s')) else .fail
        else needs (l0.flatMap (·.2.need)) (asms (l0.flatMap (·.2.asm)) (.leaf s0))
      else .fail
  else .fail

def outsOf (l : List (Nat × Out)) (k : Nat) : Out := (l.lookup k).getD ⟨[], [], [], .any, []⟩

theorem outsOf_mem : ∀ {l : List (Nat × Out)}, (l.map (·.1)).Nodup → ∀ x ∈ l, outsOf l x.1 = x.2
  | [], _, x, hx => by simp at hx
  | y :: r, hn, x, hx => by
    simp only [List.map_cons, List.nodup_cons] at hn
    rcases List.mem_cons.1 hx with rfl | hx
    · simp [outsOf, List.lookup]
    · have hne : x.1 ≠ y.1 := fun e => hn.1 (e ▸ List.mem_map.2 ⟨x, hx, rfl⟩)
      have : (x.1 == y.1) = false := by simpa using hne
      simp only [outsOf, List.lookup, this]
      exact outsOf_mem hn.2 x hx

theorem foldO_noC {E : Env} (hE : EnvOk E) {ops : Array Oper} {nt base : Nat} {cs : Nat → Nat} : ∀ {ks : List Nat} {s : S}, usesAny E ops nt base ks s = false → foldO E ops nt base cs ks s = foldO E ops nt base (fun _ => 0) ks s
  | [], s, _ => rfl
  | k :: r, s, h => by
    simp only [usesAny] at h
    simp only [foldO]
    cases ho : ops[k]? with
    | none => rfl
    | some o =>
      rw [ho] at h
      simp only [Bool.or_eq_false_iff] at h ⊢
      rw [stepO_noCs hE h.1]
      cases hst : stepO E ops nt (base + 32 * k) 0 o s with
      | none => rfl
      | some out =>
        rw [hst] at h
        simp only [] at h ⊢
        rw [foldO_noC hE h.2]

def fpGet (l : List FP) (k : Nat) : FP := (l.find? (fun x => x.k == k)).getD ⟨k, [], []⟩

theorem fpGet_mem : ∀ {l : List FP}, (l.map (·.k)).Nodup → ∀ x ∈ l, fpGet l x.k = x
  | [], _, x, hx => by simp at hx
  | y :: r, hn, x, hx => by
    simp only [List.map_cons, List.nodup_cons] at hn
    rcases List.mem_cons.1 hx with rfl | hx
    · simp [fpGet]
    · have hne : y.k ≠ x.k := fun e => hn.1 (e ▸ List.mem_map.2 ⟨x, hx, rfl⟩)
      have : (y.k == x.k) = false := by simpa using hne
      simp only [fpGet, List.find?, this]
      exact fpGet_mem hn.2 x hx

theorem RSim.draw {K : Ctx} {nt base : Nat} {L : Nat → Prop} {ρ : Nat → Addr} {A : Nat → Prop} {s : S} {a : Act} {w : World} (h : RSim K nt base L ρ A s a w) : RSim K nt base L ρ A s a { w with drawn := w.drawn + 1 } :=
  ⟨⟨h.hs.own, h.hs.view, h.hs.inj, h.hs.dom, h.hs.inA⟩, h.df, h.sz, h.tm, h.bd, h.fp, ⟨h.fr.os, h.fr.tape, h.fr.output, h.fr.size, h.fr.block, h.fr.fz⟩, h.ex⟩

theorem drawT_ok {E : Env} (hE : EnvOk E) (hm : E.P.follows .mixedOrders = true) {K : Ctx} {id : Nat} {ops : Array Oper} {nt base : Nat} {Q : Exit → Act → World → Prop} {ρ : Nat → Addr} {A : Nat → Prop} {s : S} {a : Act} {w : World}
    (hs : RSim K nt base (fun _ => False) ρ A s a w)
    (h : holds (drawT E ops nt base s) (fun s' => ∀ ρ' A' a' w', RSim K nt base (fun j => j < ops.size) ρ' A' s' a' w' → Q .normal a' w')) : (Code.region id ops true).wp E.P Q a w := by
  refine wp_region_any hm ?_
  unfold drawT at h
  simp only [] at h
  split at h
  case isFalse => exact h.elim
  rename_i hord
  have hlen := readyOrd_length (ops := ops) ops.size []
  generalize readyOrd ops ops.size [] = ord at h hord hlen
  have hO := ordOk_order hord
  split at h
  · exact h.elim
  rename_i l0 s0 hf0
  split at h
  case isFalse => exact h.elim
  rename_i hpk
  have hk0 := foldO_keys hf0
  have hkf : (l0.map fpOf).map (·.k) = ord := by rw [List.map_map]; exact hk0
  have hnd : ((l0.map fpOf).map (·.k)).Nodup := by rw [hkf]; exact hO.nd
  have hpairs : Pairs ops ord (fun k => (fpGet (l0.map fpOf) k).w) (fun k => (fpGet (l0.map fpOf) k).r) := by
    intro pre i post e
    exact pairsOk_spec hpk (fun x hx => by simp only [fpGet_mem hnd x hx, and_self]) pre i post (by rw [hkf]; exact e)
  have goodOf : ∀ cs l s', foldO E ops nt base cs ord s = some (l, s') → l.map fpOf = l0.map fpOf →
      Good E ops nt base ord s (fun k => (fpGet (l0.map fpOf) k).w) (fun k => (fpGet (l0.map fpOf) k).r) cs (outsOf l) ∧ s' = acc ops (outsOf l) (fun _ => true) ord s ∧
      (∀ k ∈ ord, ∃ x ∈ l, x.2 = outsOf l k) := by
    intro cs l s' hf hfp
    have hkl := foldO_keys hf
    have hom := outsOf_mem (l := l) (by rw [hkl]; exact hO.nd)
    obtain ⟨h1, h2⟩ := foldO_spec hf hom
    have hmem : ∀ k ∈ ord, ∃ x ∈ l, x.1 = k := by
      intro k hk
      rw [← hkl] at hk
      obtain ⟨x, hx, rfl⟩ := List.mem_map.1 hk
      exact ⟨x, hx, rfl⟩
    refine ⟨⟨h2, fun k hk => ?_⟩, h1, fun k hk => ?_⟩
    · obtain ⟨x, hx, rfl⟩ := hmem k hk
      have hin : fpOf x ∈ l0.map fpOf := by rw [← hfp]; exact List.mem_map.2 ⟨x, hx, rfl⟩
      have := fpGet_mem hnd _ hin
      have e : (fpOf x).k = x.1 := rfl
      rw [e] at this
      simp only [this, hom x hx]
      exact ⟨rfl, rfl⟩
    · obtain ⟨x, hx, rfl⟩ := hmem k hk
      exact ⟨x, hx, (hom x hx).symm⟩
  have hyp : Hyp E ops nt base ord s (fun k => (fpGet (l0.map fpOf) k).w) (fun k => (fpGet (l0.map fpOf) k).r) (fun s' => ∀ ρ' A' a' w', RSim K nt base (fun j => j < ops.size) ρ' A' s' a' w' → Q .normal a' w') := by
    intro cs
    have fin : ∀ l s', foldO E ops nt base cs ord s = some (l, s') → l.map fpOf = l0.map fpOf → holds (needs (l.flatMap (·.2.need)) (asms (l.flatMap (·.2.asm)) (.leaf s'))) (fun s' => ∀ ρ' A' a' w', RSim K nt base (fun j => j < ops.size) ρ' A' s' a' w' → Q .normal a' w') →
        ∃ o, Good E ops nt base ord s (fun k => (fpGet (l0.map fpOf) k).w) (fun k => (fpGet (l0.map fpOf) k).r) cs o ∧ (∀ k ∈ ord, ∀ p ∈ (o k).need, p) ∧ ((∀ k ∈ ord, ∀ p ∈ (o k).asm, p) → (fun s' => ∀ ρ' A' a' w', RSim K nt base (fun j => j < ops.size) ρ' A' s' a' w' → Q .normal a' w') (acc ops o (fun _ => true) ord s)) := by
      intro l s' hf hfp hh
      rw [holds_needs, holds_asms] at hh
      obtain ⟨g1, g2, g3⟩ := goodOf cs l s' hf hfp
      refine ⟨outsOf l, g1, fun k hk p hp => ?_, fun hasm => ?_⟩
      · obtain ⟨x, hx, e⟩ := g3 k hk
        exact hh.1 p (List.mem_flatMap.2 ⟨x, hx, by rw [e]; exact hp⟩)
      · rw [← g2]
        refine hh.2 fun p hp => ?_
        obtain ⟨x, hx, hp⟩ := List.mem_flatMap.1 hp
        have hxk : x.1 ∈ ord := by rw [← foldO_keys hf]; exact List.mem_map.2 ⟨x, hx, rfl⟩
        refine hasm x.1 hxk p ?_
        rw [outsOf_mem (by rw [foldO_keys hf]; exact hO.nd) x hx]
        exact hp
    split at h
    · have hc := h cs
      simp only [] at hc
      cases hf : foldO E ops nt base cs ord s with
      | none => rw [hf] at hc; exact hc.elim
      | some q =>
        obtain ⟨l, s'⟩ := q
        rw [hf] at hc
        simp only [] at hc
        split at hc
        · rename_i hfp; exact fin l s' hf hfp hc
        · exact hc.elim
    · rename_i hu
      exact fin l0 s0 (by rw [foldO_noC hE (by simpa using hu)]; exact hf0) rfl h
  obtain ⟨o, hg, _, _⟩ := hyp fun _ => 0
  refine wpAny_ok hE hO hpairs hyp ops.size _ (fun _ => false) (fun _ => 0) o ρ A a _ (by simp) ?_ ⟨fun k h => (by cases h), fun k j h => (by cases h)⟩ ?_ hg (fun k h => by cases h) ?_
  · intro k hk; simp [hk]
  · refine Nat.le_trans List.countP_le_length ?_
    exact hlen
  · rw [acc_none (fun _ _ => rfl)]
    exact (hs.mono fun j hj => hj.elim).draw

end Go.X
