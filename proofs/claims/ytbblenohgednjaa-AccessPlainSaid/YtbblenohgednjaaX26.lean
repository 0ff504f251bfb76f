import Derived.Test.YtbblenohgednjaaX25
/- A part of the walking machine: shown once for every program of the model; no condition of its own. -/
/- All answers as one, where some hang on what is left open (how much room a grown slice has). -/
namespace Go.X

abbrev Orc := Nat → Nat → Nat
def Orc.tl (o : Orc) : Orc := fun n => o (n + 1)
def Orc.cons (c : Nat → Nat) (o : Orc) : Orc := fun n => match n with
  | 0 => c
  | n + 1 => o n

def Nd.imp (p : Prop) : Nd → Nd
  | .yes => .yes
  | x => .prop (p → x.ok)
theorem Nd.imp_ok {p : Prop} {x : Nd} : (Nd.imp p x).ok ↔ (p → x.ok) := by cases x <;> simp [Nd.imp, Nd.ok]

def collapseO (m : Nat) : T (S × SV) → Orc → Option (Nd × SV)
  | .leaf x, _ => some (.yes, x.2)
  | .ite b x y, o => match collapseO m x o, collapseO m y o with
    | some (n, u), some (k, v) => match mergeSV m b u v with
      | some z => some (Nd.if' b n k, z)
      | none => none
    | _, _ => none
  | .need p t, o => match collapseO m t o with
    | some (n, v) => some (Nd.need p n, v)
    | none => none
  | .asm p t, o => match collapseO m t o with
    | some (n, v) => some (Nd.imp p n, v)
    | none => none
  | .all f, o => collapseO m (f (o 0)) o.tl
  | .fail, _ => none

theorem collapseO_holds {m : Nat} {Q : SV → Prop} : ∀ {t : T (S × SV)}, (∀ o, ∃ n u, collapseO m t o = some (n, u) ∧ n.ok ∧ ∀ x, Sub m x u → Q x) → holds t (fun x => Q x.2)
  | .leaf x, h => by
    obtain ⟨n, u, h1, h2, h3⟩ := h fun _ _ => 0
    simp [collapseO] at h1
    obtain ⟨rfl, rfl⟩ := h1
    exact h3 _ (Sub.refl _ _)
  | .ite b x y, h => by
    refine ⟨fun hb => collapseO_holds (m := m) fun o => ?_, fun hb => collapseO_holds (m := m) fun o => ?_⟩
    all_goals
      obtain ⟨n, u, h1, h2, h3⟩ := h o
      simp only [collapseO] at h1
      split at h1
      · rename_i n1 u1 n2 v1 e1 e2
        split at h1
        · rename_i z hz
          simp at h1
          obtain ⟨rfl, rfl⟩ := h1
          rw [Nd.if_ok] at h2
          obtain ⟨m1, m2⟩ := mergeSV_spec hz
          first
          | exact ⟨n1, u1, e1, h2.1 hb, fun x hx => h3 x (hx.trans (m1 hb))⟩
          | exact ⟨n2, v1, e2, h2.2 hb, fun x hx => h3 x (hx.trans (m2 hb))⟩
        · cases h1
      · cases h1
  | .need p t, h => by
    have key : ∀ o, p ∧ ∃ n u, collapseO m t o = some (n, u) ∧ n.ok ∧ ∀ x, Sub m x u → Q x := by
      intro o
      obtain ⟨n, u, h1, h2, h3⟩ := h o
      simp only [collapseO] at h1
      split at h1
      · rename_i k v e
        simp at h1
        obtain ⟨rfl, rfl⟩ := h1
        rw [Nd.need_ok] at h2
        exact ⟨h2.1, k, v, e, h2.2, h3⟩
      · cases h1
    exact ⟨(key fun _ _ => 0).1, collapseO_holds (m := m) fun o => (key o).2⟩
  | .asm p t, h => by
    intro hp
    refine collapseO_holds (m := m) fun o => ?_
    obtain ⟨n, u, h1, h2, h3⟩ := h o
    simp only [collapseO] at h1
    split at h1
    · rename_i k v e
      simp at h1
      obtain ⟨rfl, rfl⟩ := h1
      rw [Nd.imp_ok] at h2
      exact ⟨k, v, e, h2 hp, h3⟩
    · cases h1
  | .all f, h => by
    intro cs
    refine collapseO_holds (m := m) fun o => ?_
    obtain ⟨n, u, h1, h2, h3⟩ := h (Orc.cons cs o)
    exact ⟨n, u, h1, h2, h3⟩
  | .fail, h => by
    obtain ⟨n, u, h1, _⟩ := h fun _ _ => 0
    simp [collapseO] at h1

/-- A function of plain values. -/
theorem pureO_ok {E : Env} (hE : EnvOk E) (hm : E.P.follows .mixedOrders = true) {g : FuncId} {fn : Func} {c : Code} (hf : E.P.funcs[g]? = some fn) (hname : (fn.name == "runtime.NumGoroutine") = false) (hb : fn.body = some c) {Lp : Blocks} {fl : Nat}
    (hB : ∀ K, AllBlocks E K fn.ntmps Lp c) {f : List V → Option (List Prop × SV)}
    (h : ∀ args ns sv, f args = some (ns, sv) → ∃ args', (∀ ρ, args'.map (V.enc ρ) = args.map (V.enc ρ)) ∧ args'.length ≤ fn.ntmps ∧ args'.all V.noId = true ∧ sv.noId = true ∧
      ∀ o, ∃ n sv', collapseO 0 (fnT E fn c Lp fl args' (fun _ => none) 0) o = some (n, sv') ∧ ((∀ p ∈ ns, p) → n.ok ∧ Sub 0 sv' sv)) :
    ModelOk E.P g (pureM f) := by
  refine ⟨⟨fn, hf, hname, by simp [hb]⟩, fun args ρ A hp w fid Q hs hargs hfresh hP => ?_⟩
  obtain ⟨r, l, hr, hP⟩ := hP 0
  unfold pureM at hr
  split at hr
  · rename_i ns sv hfa
    simp only [Rd.run, Option.some.injEq, Prod.mk.injEq] at hr
    obtain ⟨rfl, rfl⟩ := hr
    obtain ⟨args', h0, h1, h2, h3, h4⟩ := h args ns sv hfa
    obtain ⟨hn, hk⟩ := hP (by simp)
    have hs0 : HSim ρ (fun _ => False) (fun _ => none) w := ⟨fun _ _ h => (by cases h), fun _ _ h => (by cases h), fun _ _ _ _ h => (by cases h), fun _ _ h => (by cases h), fun _ _ h => (by cases h)⟩
    rw [← h0 ρ]
    have h5 : holds (fnT E fn c Lp fl args' (fun _ => none) 0) (fun x => Sub 0 x.2 sv) := by
      refine collapseO_holds (m := 0) (Q := fun x => Sub 0 x sv) fun o => ?_
      obtain ⟨n, sv', e1, e2⟩ := h4 o
      obtain ⟨e3, e4⟩ := e2 hn
      exact ⟨n, sv', e1, e3, fun x hx => hx.trans e4⟩
    refine fnT_ok (D := fun _ => False) hE hm hf hb hs0 (hB _) (fun v hv => V.noId_inA (List.all_eq_true.1 h2 v hv) _) h1 (fun i hi => hi.elim) (fun i b h => by cases h) (holds_mono (fun x hx ρ' A' v w' _ hv hfr _ _ => ?_) h5)
    refine hk ρ A v w' (Ext.refl _ _ _) ?_ (SV.noId_free h3 _ _ _ (hx _ _ _ (fun _ h => absurd h (Nat.not_lt_zero _)) hv) ρ A) (hfr.mono fun _ _ h => h.elim) (fun i h1 h2 => absurd h1 h2)
    simp only [applyRes, applyWrs, applyNews]
    exact hs.frame hfr fun _ _ _ h => h
  · cases hr

end Go.X
