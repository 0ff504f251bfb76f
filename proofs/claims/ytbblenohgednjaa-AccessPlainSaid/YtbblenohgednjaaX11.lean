import Derived.Test.YtbblenohgednjaaX10
/- A part of the walking machine: shown once for every program of the model; no condition of its own. -/
/- Every operation at once. -/
namespace Go.X

/-- What a model of a function says of its calls. -/
def ModelOk (P : Program) (g : FuncId) (M : List V → Nat → Nat → Rd) : Prop :=
  (∃ fn, P.funcs[g]? = some fn ∧ (fn.name == "runtime.NumGoroutine") = false ∧ fn.body.isNone = false) ∧
  ∀ (args : List V) (ρ : Nat → Addr) (A : Nat → Prop) (hp : Hp) (w : World) (fid : Nat) (Q : Ending → World → Prop), HSim ρ A hp w → (∀ v ∈ args, v.inA A) → (∀ j, fid ≤ j → j < fid + 32 → ¬ A j) →
    (∀ c, ∃ r l, (M args fid c).run hp = some (r, l) ∧ Post ρ A hp w fid r (fun v w' => Q (.returned v) w')) → Calls P g (args.map (V.enc ρ)).toArray w Q

/-- Likewise of a model with more than one answer; of a function without a body: what stands in for it. -/
def BModelOk (P : Program) (g : FuncId) (M : List V → Nat → Hp → T (Res × List Nat)) : Prop :=
  ((∃ fn, P.funcs[g]? = some fn ∧ (fn.name == "runtime.NumGoroutine") = false ∧ fn.body.isNone = false) ∧
  ∀ (args : List V) (ρ : Nat → Addr) (A : Nat → Prop) (hp : Hp) (w : World) (fid : Nat) (Q : Ending → World → Prop), HSim ρ A hp w → (∀ v ∈ args, v.inA A) → (∀ j, fid ≤ j → j < fid + 32 → ¬ A j) →
    holds (M args fid hp) (fun x => Post ρ A hp w fid x.1 (fun v w' => Q (.returned v) w')) → Calls P g (args.map (V.enc ρ)).toArray w Q) ∨
  ∀ (args : List V) (ρ : Nat → Addr) (A : Nat → Prop) (hp : Hp) (w : World) (fid : Nat) (Q : Value → World → Prop), HSim ρ A hp w → (∀ v ∈ args, v.inA A) → (∀ j, fid ≤ j → j < fid + 32 → ¬ A j) →
    holds (M args fid hp) (fun x => Post ρ A hp w fid x.1 Q) → ∃ v w', (callFunc g (args.map (V.enc ρ)).toArray).run P w = .ok (.value v) w' ∧ Q v w'

structure EnvOk (E : Env) : Prop where
  F : ∀ g M, E.F g = some M → ModelOk E.P g M
  B : ∀ g M, E.B g = some M → BModelOk E.P g M
  C : ∀ g M, E.F g = some M → E.C g = false → ∀ args fid c, M args fid c = M args fid 0

section
variable {E : Env} {ρ : Nat → Addr} {A : Nat → Prop} {hp : Hp} {w : World} {fid : Nat} {next : Act → World → Prop} {Q : Exit → Act → World → Prop}

theorem wp_val {P : Program} {o : Oper} {a : Act} {S : Sem Value} {z : Value} {w w' : World} (hop : execOp a.eval o = (do pure (Next.value (← S)))) (hrun : S.run P w = .ok z w') (hn : next (a.put o.dst z) w') : o.wp P a w next Q := by
  unfold Oper.wp
  rw [hop]
  simp only [Sem.run_bind, hrun, Result.andThen_ok, Sem.run_pure, Oper.upon]
  exact hn

theorem wp_unit {P : Program} {o : Oper} {a : Act} {S : Sem Unit} {w w' : World} (hop : execOp a.eval o = (do S; pure Next.skip)) (hrun : S.run P w = .ok () w') (hn : next (a.put o.dst undef) w') : o.wp P a w next Q := by
  unfold Oper.wp
  rw [hop]
  simp only [Sem.run_bind, hrun, Result.andThen_ok, Sem.run_pure, Oper.upon]
  exact hn

theorem opx_ok (hE : EnvOk E) {o : Oper} {a : Act} {ov : Operand → SV} (hs : HSim ρ A hp w) (hov : ∀ x, R ρ A (ov x) (a.eval x)) (hf : ∀ j, fid ≤ j → j < fid + 32 → ¬ A j)
    (h : ∀ c, ∃ r l, (opx E o.op ov fid c).run hp = some (r, l) ∧ Post ρ A hp w fid r (fun v w' => next (a.put o.dst v) w')) : o.wp E.P a w next Q := by
  obtain ⟨dst, op, type, pos, after, guard⟩ := o
  simp only [] at h
  have lists : ∀ l : List Operand, ∀ (i : Nat) (x : SV), (l.map ov)[i]? = some x → ∃ u, (l.map a.eval)[i]? = some u ∧ R ρ A x u := by
    intro l i x hx
    rw [List.getElem?_map] at hx
    cases hi : l[i]? with
    | none => simp [hi] at hx
    | some y =>
      simp [hi] at hx
      subst hx
      exact ⟨a.eval y, by simp [hi], hov y⟩
  cases op with
  | call q =>
    obtain ⟨callee, args, argTypes⟩ := q
    cases callee with
    | value f =>
      simp only [opx] at h
      obtain ⟨g, all, h1, h2⟩ := callx_ok (E := E) (next' := fun
        | .returned v, w'' => next (a.put dst v) w''
        | .panicked chain, w'' => Q (.panic chain) a w''
        | .outgrown, _ => LetsOut Q) hE.F hs (hov f) (lists args.toList) (by simp) hf h
      unfold Oper.wp
      simp only [execOp, resolve, Sem.run_bind] at h1 ⊢
      rw [show args.map a.eval = (args.toList.map a.eval).toArray by apply Array.ext'; simp]
      rw [h1]
      exact h2
    | invoke _ _ => obtain ⟨r, l, hr, _⟩ := h 0; simp [opx, Rd.run] at hr
    | builtin b =>
      simp only [opx] at h
      obtain ⟨r, l, hr, hP⟩ := h 0
      have hop : ∀ (S : Sem Value), (builtin b argTypes type (args.map fun | .const _ => true | _ => false) (args.map a.eval) = (do pure (Next.value (← S)))) →
          execOp a.eval { dst, op := .call { callee := .builtin b, args, argTypes }, type, pos, after, guard } = (do pure (Next.value (← S))) := fun S hS => by rw [← hS]; rfl
      split at hr
      · rename_i x t hx ht
        obtain ⟨z, h1, h2⟩ := lenx_ok hr hs (hov x) hP type
        refine wp_val (hop _ rfl) ?_ h2
        rw [show args.map a.eval = #[a.eval x] by apply Array.ext'; simp [hx], show argTypes = #[t] by apply Array.ext'; simp [ht]]
        exact h1
      · rename_i xs ts
        unfold minx at hr
        split at hr
        · rename_i y ys hm
          obtain ⟨e1, e2⟩ := mapSC_spec hm (lists args.toList) (by simp)
          cases hmf : minFold ys y with
          | none => simp [hmf, optRd, Rd.run] at hr
          | some z =>
            simp only [hmf, Option.map_some, optRd] at hr
            obtain rfl := run_retV hr
            obtain ⟨h1, h2⟩ := minFold_spec (ρ := ρ) (w := w) (E := E) hmf
            refine wp_val (hop _ rfl) (z := z.enc ρ) ?_ (post_ret hs hP ⟨h2 (e2 y (by simp)), rfl⟩)
            rw [show args.map a.eval = (args.toList.map a.eval).toArray by apply Array.ext'; simp, e1]
            simpa [Builtin.min_] using h1
        · cases hr
      · rename_i xs ts
        unfold maxx at hr
        split at hr
        · rename_i y ys hm
          obtain ⟨e1, e2⟩ := mapSC_spec hm (lists args.toList) (by simp)
          cases hmf : maxFold ys y with
          | none => simp [hmf, optRd, Rd.run] at hr
          | some z =>
            simp only [hmf, Option.map_some, optRd] at hr
            obtain rfl := run_retV hr
            obtain ⟨h1, h2⟩ := maxFold_spec (ρ := ρ) (w := w) (E := E) hmf
            refine wp_val (hop _ rfl) (z := z.enc ρ) ?_ (post_ret hs hP ⟨h2 (e2 y (by simp)), rfl⟩)
            rw [show args.map a.eval = (args.toList.map a.eval).toArray by apply Array.ext'; simp, e1]
            simpa [Builtin.max_] using h1
        · cases hr
      · rename_i x y t t2 hx ht
        have h' : ∀ c, ∃ r l, (appendx E t t2 (ov x) (ov y) fid c).run hp = some (r, l) ∧ Post ρ A hp w fid r (fun v w' => next (a.put dst v) w') := by
          intro c
          have := h c
          simpa only [hx, ht] using this
        obtain ⟨z, w', h1, h2⟩ := appendx_ok hs (hov x) (hov y) hf h' type
        refine wp_val (hop _ rfl) ?_ h2
        rw [show args.map a.eval = #[a.eval x, a.eval y] by apply Array.ext'; simp [hx], show argTypes = #[t, t2] by apply Array.ext'; simp [ht]]
        exact h1
      · rename_i x y t ts hx ht
        obtain ⟨z, w', h1, h2⟩ := copyx_ok hr hs (hov x) (hov y) hP type argTypes (by rw [← Array.getElem?_toList, ht]; rfl)
        refine wp_val (hop _ rfl) ?_ h2
        rw [show args.map a.eval = #[a.eval x, a.eval y] by apply Array.ext'; simp [hx]]
        exact h1
      · cases hr
  | move x =>
    obtain ⟨r, l, hr, hP⟩ := h 0
    obtain rfl := run_ret hr
    exact wp_val (S := pure (a.eval x)) (by simp [execOp]) rfl (post_ret hs hP (hov x))
  | assign x =>
    obtain ⟨r, l, hr, hP⟩ := h 0
    obtain rfl := run_ret hr
    exact wp_val (S := pure (a.eval x)) (by simp [execOp]) rfl (post_ret hs hP (hov x))
  | pick q x y =>
    obtain ⟨r, l, hr, hP⟩ := h 0
    obtain ⟨b, h1, h2⟩ := pickx_ok hr hs (hov q) (hov x) (hov y) hP
    refine wp_val (S := do pure (if ← asBool (a.eval q) then a.eval x else a.eval y)) (by simp [execOp]) (z := if b then a.eval x else a.eval y) ?_ h2
    simp [h1, asBool]
  | alloc t =>
    obtain ⟨r, l, hr, hP⟩ := h 0
    simp only [opx] at hr
    split at hr
    · rename_i z hz
      obtain ⟨zv, z1, z2, z3⟩ := zeroV_spec hz ρ w
      refine wp_val rfl ?_ (newx_ok hr hs (z3 A) hf hP)
      simp only [Instr.alloc, Sem.run_bind, z1, Result.andThen_ok, run_newVar (E := E) z2, Sem.run_pure]
    · cases hr
  | box t x =>
    obtain ⟨r, l, hr, hP⟩ := h 0
    simp only [opx] at hr
    split at hr
    · rename_i v hv
      have := asV_spec hv
      have hx := hov x
      rw [this] at hx
      split at hr
      · rename_i g hg
        obtain ⟨e1, e2⟩ := V.segs_spec hg ρ
        refine wp_val rfl ?_ (newx_ok hr hs (fuse_inA (e2 A hx.1)) hf hP)
        simp only [Instr.box, Sem.run_bind]
        rw [hx.2, run_newVar (E := E) (ρ := ρ) (g := fuse g) (by rw [fuse_spec]; exact e1)]
        rfl
      · cases hr
    · cases hr
  | build t parts =>
    obtain ⟨r, l, hr, hP⟩ := h 0
    obtain ⟨z, h1, h2⟩ := buildx_ok hr hs hov hP
    exact wp_val rfl h1 h2
  | buildSlice t len parts =>
    obtain ⟨r, l, hr, hP⟩ := h 0
    obtain ⟨z, w', h1, h2⟩ := buildSlicex_ok hr hs hov hf hP
    exact wp_val rfl h1 h2
  | load t x =>
    obtain ⟨r, l, hr, hP⟩ := h 0
    obtain ⟨z, h1, h2⟩ := loadx_ok hr hs (hov x) hP
    exact wp_val rfl h1 h2
  | store t x y =>
    obtain ⟨r, l, hr, hP⟩ := h 0
    obtain ⟨w', h1, h2⟩ := storex_ok hr hs (hov x) (hov y) hP undef
    exact wp_unit rfl h1 h2
  | nilCheck x =>
    obtain ⟨r, l, hr, hP⟩ := h 0
    obtain ⟨h1, h2⟩ := nilx_ok hr hs (hov x) hP
    unfold Oper.wp
    rcases h1 with ⟨b, h1⟩ | ⟨f, b, c, h1⟩
    · simp only [execOp, h1, Sem.run_pure, Oper.upon]; rw [h1] at h2; exact h2
    · simp only [execOp, h1, Sem.run_pure, Oper.upon]; rw [h1] at h2; exact h2
  | binOp op t x y yt =>
    obtain ⟨r, l, hr, hP⟩ := h 0
    obtain ⟨z, h1, h2⟩ := binx_ok hr hs (hov x) (hov y) hP x y
    exact wp_val rfl h1 h2
  | unOp op t x =>
    obtain ⟨r, l, hr, hP⟩ := h 0
    obtain ⟨z, h1, h2⟩ := unx_ok hr hs (hov x) hP
    exact wp_val rfl h1 h2
  | convert s d x =>
    obtain ⟨r, l, hr, hP⟩ := h 0
    obtain ⟨z, h1, h2⟩ := convertx_ok hr hs (hov x) hP
    exact wp_val rfl h1 h2
  | makeFunc fn first cap =>
    obtain ⟨r, l, hr, hP⟩ := h 0
    have := mkFnx_ok hr hs (lists first.toList) (by simp) (lists cap.toList) (by simp) hP
    refine wp_val rfl rfl ?_
    rw [show first.map a.eval = (first.toList.map a.eval).toArray by apply Array.ext'; simp, show cap.map a.eval = (cap.toList.map a.eval).toArray by apply Array.ext'; simp]
    exact this
  | makeSlice t x y =>
    obtain ⟨r, l, hr, hP⟩ := h 0
    obtain ⟨z, w', h1, h2⟩ := makeSlicex_ok hr hs (hov x) (hov y) hf hP
    exact wp_val rfl h1 h2
  | slice t x lo hi mx =>
    obtain ⟨r, l, hr, hP⟩ := h 0
    obtain ⟨z, h1, h2⟩ := slicex_ok hr hs hov hP
    exact wp_val rfl h1 h2
  | fieldAddr t x f =>
    obtain ⟨r, l, hr, hP⟩ := h 0
    obtain ⟨z, h1, h2⟩ := fieldAddrx_ok hr hs (hov x) hP
    exact wp_val rfl h1 h2
  | field t x f =>
    obtain ⟨r, l, hr, hP⟩ := h 0
    obtain ⟨z, h1, h2⟩ := fieldx_ok hr hs (hov x) hP
    exact wp_val rfl h1 h2
  | indexAddr t x i =>
    obtain ⟨r, l, hr, hP⟩ := h 0
    obtain ⟨z, h1, h2⟩ := indexAddrx_ok hr hs (hov x) (hov i) hP
    exact wp_val rfl h1 h2
  | index t x i =>
    obtain ⟨r, l, hr, hP⟩ := h 0
    obtain ⟨z, h1, h2⟩ := indexx_ok hr hs (hov x) (hov i) hP
    exact wp_val rfl h1 h2
  | extract x i =>
    obtain ⟨r, l, hr, hP⟩ := h 0
    obtain ⟨z, h1, h2⟩ := extractx_ok hr hs (hov x) hP
    exact wp_val rfl h1 h2
  | _ => obtain ⟨r, l, hr, _⟩ := h 0; simp [opx, Rd.run] at hr

end
end Go.X
