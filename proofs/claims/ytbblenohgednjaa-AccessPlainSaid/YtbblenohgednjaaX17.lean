import Derived.Test.YtbblenohgednjaaX16
import Derived.Scope
/- A part of the walking machine: shown once for every program of the model; no condition of its own. -/
/- Bodies. -/
namespace Go.X

inductive Ex where
  | normal
  | exit (id : Nat)
  | ret

def Ex.exit' : Ex → Exit
  | .normal => .normal
  | .exit id => .exit id
  | .ret => .ret

structure Leaf where
  ex : Ex
  s : S
  b : Nat

abbrev Blocks := Nat → Option (Nat → S → T Leaf)

def loopT (body : Nat → S → T Leaf) : Nat → Nat → S → T Leaf
  | 0, _, _ => .fail
  | n + 1, base, s => (body base s).bind fun l => match l.ex with
    | .normal => loopT body n l.b l.s
    | _ => .leaf l

def endBlock (id : Nat) (l : Leaf) : T Leaf := match l.ex with
  | .exit j => if j = id then .leaf { l with ex := .normal } else .leaf l
  | _ => .leaf l

def codeT (E : Env) (nt : Nat) (Lp : Blocks) (fl : Nat) : Code → Nat → S → T Leaf
  | .skip, base, s | .label _, base, s => .leaf ⟨.normal, s, base⟩
  | .region _ ops draw, base, s => (if draw then drawT E ops nt base s else seqT E ops nt base (List.range ops.size) s).bind fun s' => .leaf ⟨.normal, s', base + 32 * ops.size⟩
  | .seq x y, base, s => (codeT E nt Lp fl x base s).bind fun l => match l.ex with
    | .normal => codeT E nt Lp fl y l.b l.s
    | _ => .leaf l
  | .cond c x y, base, s => match ovOf s.tm c with
    | .ev (.sc (.bool true b)) => match b with
      | true => codeT E nt Lp fl x base s
      | false => codeT E nt Lp fl y base s
    | .ev (.sc (.bool false b)) => .ite b (codeT E nt Lp fl x base s) (codeT E nt Lp fl y base s)
    | _ => .fail
  | .block id c, base, s => match Lp id with
    | some M => M base s
    | none => (codeT E nt Lp fl c base s).bind (endBlock id)
  | .loop c, base, s => loopT (codeT E nt Lp fl c) fl base s
  | .scope c, base, s => codeT E nt Lp fl c base s
  | .exit id, base, s => .leaf ⟨.exit id, s, base⟩
  | .ret, base, s => .leaf ⟨.ret, s, base⟩
  | _, _, _ => .fail

section
variable {E : Env} {K : Ctx} {nt : Nat} {Lp : Blocks} {fl : Nat}

def LeafPost (K : Ctx) (nt : Nat) (Q : Exit → Act → World → Prop) (l : Leaf) : Prop :=
  ∀ ρ' A' a' w', RSim K nt l.b (fun _ => False) ρ' A' l.s a' w' → Q l.ex.exit' a' w'

def BlocksOk (E : Env) (K : Ctx) (nt : Nat) (Lp : Blocks) (id : Nat) (c : Code) : Prop :=
  ∀ M, Lp id = some M → ∀ (Q : Exit → Act → World → Prop) (base : Nat) (s : S) (ρ : Nat → Addr) (A : Nat → Prop) (a : Act) (w : World), RSim K nt base (fun _ => False) ρ A s a w →
    holds (M base s) (LeafPost K nt Q) → (Code.block id c).wp E.P Q a w

/-- Every block of a body that has a model of its own. -/
def AllBlocks (E : Env) (K : Ctx) (nt : Nat) (Lp : Blocks) : Code → Prop
  | .seq x y => AllBlocks E K nt Lp x ∧ AllBlocks E K nt Lp y
  | .cond _ x y => AllBlocks E K nt Lp x ∧ AllBlocks E K nt Lp y
  | .block id c => match Lp id with
    | some _ => BlocksOk E K nt Lp id c
    | none => AllBlocks E K nt Lp c
  | .loop c => AllBlocks E K nt Lp c
  | .scope c => AllBlocks E K nt Lp c
  | _ => True

theorem RSim.next {base n : Nat} {ρ : Nat → Addr} {A : Nat → Prop} {s : S} {a : Act} {w : World} (h : RSim K nt base (fun j => j < n) ρ A s a w) : RSim K nt (base + 32 * n) (fun _ => False) ρ A s a w :=
  ⟨h.hs, h.df, h.sz, h.tm, fun i hi => .inl (by rcases h.bd i hi with hb | ⟨j, hj, h1, h2⟩ <;> omega), h.fp, h.fr, h.ex⟩

/-- A loop, a number going down in each round. -/
theorem wp_loop_n {P : Program} {Q : Exit → Act → World → Prop} {c : Code} (I : Nat → Act → World → Prop) {a : Act} {w : World} {n : Nat} (h₀ : I n a w)
    (round : ∀ n a w, I n a w → c.wp P (Exit.then (fun a' w' => ∃ m, m < n ∧ I m a' w') Q) a w) : (Code.loop c).wp P Q a w := by
  intro b k cs
  have key : ∀ n a w, I n a w → ∃ e a' w', Q e a' w' ∧ Arrives P (lone (b.at a (.code c :: .inLoop c :: k)) cs w) b k cs e a' w' := by
    intro n
    induction n using Nat.strongRecOn with
    | _ n ih =>
      intro a w hI
      obtain ⟨e, a₁, w₁, hq, harr⟩ := round n a w hI b (.inLoop c :: k) cs
      cases e with
      | normal =>
        obtain ⟨m, hm, hI₁⟩ := hq
        obtain ⟨e₂, a₂, w₂, hq₂, harr₂⟩ := ih m hm a₁ w₁ hI₁
        exact ⟨e₂, a₂, w₂, hq₂, .of_steps (Steps.trans harr (.one step_inLoop)) harr₂⟩
      | _ => exact ⟨_, a₁, w₁, hq, .pass (x := .inLoop c) rfl (fun _ _ => .inl (by simp)) harr⟩
  obtain ⟨e, a', w', hq, harr⟩ := key n a w h₀
  exact ⟨e, a', w', hq, .of_steps (.one step_loop) harr⟩

theorem codeT_ok (hE : EnvOk E) (hm : E.P.follows .mixedOrders = true) : ∀ (c : Code), AllBlocks E K nt Lp c → ∀ (Q : Exit → Act → World → Prop) (base : Nat) (s : S) (ρ : Nat → Addr) (A : Nat → Prop) (a : Act) (w : World),
    RSim K nt base (fun _ => False) ρ A s a w → holds (codeT E nt Lp fl c base s) (LeafPost K nt Q) → c.wp E.P Q a w
  | .skip, _, Q, base, s, ρ, A, a, w, hs, h => wp_skip (h ρ A a w hs)
  | .label _, _, Q, base, s, ρ, A, a, w, hs, h => wp_label (h ρ A a w hs)
  | .region id ops draw, _, Q, base, s, ρ, A, a, w, hs, h => by
    simp only [codeT, holds_bind] at h
    cases draw with
    | true =>
      simp only [if_true] at h
      refine drawT_ok hE hm hs (holds_mono (fun s' hl ρ' A' a' w' hs' => ?_) h)
      exact hl ρ' A' a' w' hs'.next
    | false =>
      simp only [Bool.false_eq_true, if_false] at h
      refine wp_region (seqT_ok hE hs (fun k _ h => h) List.nodup_range (fun k h => h.elim) (fun k hk => List.mem_range.1 hk) (holds_mono (fun s' hl ρ' A' a' w' hs' => ?_) h))
      exact hl ρ' A' a' w' hs'.next
  | .seq x y, hB, Q, base, s, ρ, A, a, w, hs, h => by
    simp only [codeT, holds_bind] at h
    refine wp_seq (codeT_ok hE hm x hB.1 _ base s ρ A a w hs (holds_mono (fun l hl => ?_) h))
    obtain ⟨ex, s', b⟩ := l
    intro ρ' A' a' w' hs'
    cases ex with
    | normal => exact codeT_ok hE hm y hB.2 Q b s' ρ' A' a' w' hs' hl
    | exit id => exact hl ρ' A' a' w' hs'
    | ret => exact hl ρ' A' a' w' hs'
  | .cond c x y, hB, Q, base, s, ρ, A, a, w, hs, h => by
    simp only [codeT] at h
    have hc := R_ov hs.tm c
    split at h
    · rename_i b hv
      rw [hv] at hc
      cases b with
      | true => exact wp_cond_true hc.2 (codeT_ok hE hm x hB.1 Q base s ρ A a w hs h)
      | false => exact wp_cond_false hc.2 (codeT_ok hE hm y hB.2 Q base s ρ A a w hs h)
    · rename_i b hv
      rw [hv] at hc
      exact wp_cond_split hc.2 (fun hb => codeT_ok hE hm x hB.1 Q base s ρ A a w hs (h.1 hb)) (fun hb => codeT_ok hE hm y hB.2 Q base s ρ A a w hs (h.2 hb))
    · exact h.elim
  | .block id c, hB, Q, base, s, ρ, A, a, w, hs, h => by
    simp only [codeT] at h
    simp only [AllBlocks] at hB
    split at h
    · rename_i M hM
      rw [hM] at hB
      exact hB M hM Q base s ρ A a w hs h
    · rename_i hM
      rw [hM] at hB
      rw [holds_bind] at h
      refine wp_block (codeT_ok hE hm c hB _ base s ρ A a w hs (holds_mono (fun l hl => ?_) h))
      obtain ⟨ex, s', b⟩ := l
      intro ρ' A' a' w' hs'
      cases ex with
      | normal => exact hl ρ' A' a' w' hs'
      | exit j =>
        simp only [endBlock] at hl
        simp only [Ex.exit', Exit.inBlock]
        by_cases e : j = id
        · rw [if_pos e] at hl ⊢; exact hl ρ' A' a' w' hs'
        · rw [if_neg e] at hl ⊢; exact hl ρ' A' a' w' hs'
      | ret => exact hl ρ' A' a' w' hs'
  | .loop c, hB, Q, base, s, ρ, A, a, w, hs, h => by
    simp only [codeT] at h
    refine wp_loop_n (fun n a' w' => ∃ base s ρ A, RSim K nt base (fun _ => False) ρ A s a' w' ∧ holds (loopT (codeT E nt Lp fl c) n base s) (LeafPost K nt Q)) ⟨base, s, ρ, A, hs, h⟩ ?_
    rintro n a' w' ⟨base', s', ρ', A', hs', h'⟩
    cases n with
    | zero => exact h'.elim
    | succ n =>
      simp only [loopT, holds_bind] at h'
      refine codeT_ok hE hm c hB _ base' s' ρ' A' a' w' hs' (holds_mono (fun l hl => ?_) h')
      obtain ⟨ex, s2, b⟩ := l
      intro ρ2 A2 a2 w2 hs2
      cases ex with
      | normal => exact ⟨n, Nat.lt_succ_self n, b, s2, ρ2, A2, hs2, hl⟩
      | exit id => exact hl ρ2 A2 a2 w2 hs2
      | ret => exact hl ρ2 A2 a2 w2 hs2
  | .exit id, _, Q, base, s, ρ, A, a, w, hs, h => wp_exit (h ρ A a w hs)
  | .ret, _, Q, base, s, ρ, A, a, w, hs, h => wp_ret (h ρ A a w hs)
  | .rangeFunc _ _ _ _, _, Q, base, s, ρ, A, a, w, hs, h => h.elim
  | .scope c, hB, Q, base, s, ρ, A, a, w, hs, h => by
    simp only [codeT] at h
    refine wp_scope_straight (codeT_ok hE hm c hB _ base s ρ A a w hs (holds_mono (fun l hl => ?_) h))
    obtain ⟨ex, s', b⟩ := l
    intro ρ' A' a' w' hs'
    cases ex with
    | normal => exact hl ρ' A' a' w' hs'
    | exit id => exact hl ρ' A' a' w' hs'
    | ret => exact hl ρ' A' a' w' hs'
  | .goto _, _, Q, base, s, ρ, A, a, w, hs, h => h.elim
  | .refuse _, _, Q, base, s, ρ, A, a, w, hs, h => h.elim
end
end Go.X
