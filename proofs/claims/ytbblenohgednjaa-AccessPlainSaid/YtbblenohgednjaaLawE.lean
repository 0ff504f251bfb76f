import Derived.Test.YtbblenohgednjaaLawD
/- The statement on each way: plain facts on numbers and bytes, under the conditions that each theorem names. -/
set_option linter.all false
namespace Go.X.M
open Go Go.X
theorem ltU (p0 : BitVec 64) (h : p0.toNat < 32768) : p0.ult 32768#64 = true ∧ (32768#64).ule p0 = false ∧ ¬ p0 = 61448#64 ∧ ¬ p0 = 61440#64 ∧ p0.ult 61696#64 = true := by
  refine ⟨?_, ?_, ?_, ?_, ?_⟩
  · simp [BitVec.ult]; omega
  · simp [BitVec.ule]; omega
  · rintro rfl; simp at h
  · rintro rfl; simp at h
  · simp [BitVec.ult]; omega
theorem geU (p0 : BitVec 64) (h : ¬ p0.toNat < 32768) : p0.ult 32768#64 = false ∧ (32768#64).ule p0 = true := by
  refine ⟨?_, ?_⟩
  · simp [BitVec.ult]; omega
  · simp [BitVec.ule]; omega
theorem room (p0 : BitVec 64) (n : Nat) (hn : n = 2 ∨ n = 4 ∨ n = 8) (hA : p0 % BitVec.ofNat 64 n = 0#64) (h : p0.toNat < 32768) : p0.toNat + n ≤ 32768 := by
  have := congrArg BitVec.toNat hA
  rcases hn with rfl | rfl | rfl <;> simp at this <;> omega
theorem portK (p0 : BitVec 64) (hC : p0.ult 61696#64 = false) (hM : (p0 - 61696#64) % 256#64 = 0#64) :
    p0 = 61696#64 ∨ p0 = 61952#64 ∨ p0 = 62208#64 ∨ p0 = 62464#64 ∨ p0 = 62720#64 ∨ p0 = 62976#64 ∨
    ((¬ (p0 - 61696#64) / 256#64 = 0#64) ∧ (¬ (p0 - 61696#64) / 256#64 = 1#64) ∧ (¬ (p0 - 61696#64) / 256#64 = 2#64) ∧ (¬ (p0 - 61696#64) / 256#64 = 3#64) ∧ (¬ (p0 - 61696#64) / 256#64 = 4#64) ∧ (¬ (p0 - 61696#64) / 256#64 = 5#64) ∧
      (4#64).ule ((p0 - 61696#64) / 256#64) = true ∧ ¬ p0 = 61448#64 ∧ ¬ p0 = 61440#64 ∧ p0.ult 62720#64 = false) := by
  have h0 : ¬ p0.toNat < 61696 := by simpa [BitVec.ult] using hC
  have hl := p0.isLt
  have h1 : (p0 - 61696#64).toNat = p0.toNat - 61696 := by simp [BitVec.toNat_sub]; omega
  have h2 : (p0.toNat - 61696) % 256 = 0 := by
    have := congrArg BitVec.toNat hM
    rw [BitVec.toNat_umod, h1] at this
    simpa using this
  have h3 : ((p0 - 61696#64) / 256#64).toNat = (p0.toNat - 61696) / 256 := by rw [BitVec.toNat_udiv, h1]; rfl
  have eqk : ∀ k, k < 1000000 → p0.toNat = k → p0 = BitVec.ofNat 64 k := fun k hk e => BitVec.eq_of_toNat_eq (by simp [e]; omega)
  have nek : ∀ k, k < 1000 → (p0.toNat - 61696) / 256 ≠ k → ¬ (p0 - 61696#64) / 256#64 = BitVec.ofNat 64 k := by
    intro k hk hne e
    have := congrArg BitVec.toNat e
    rw [h3] at this
    simp at this
    omega
  by_cases e0 : p0.toNat = 61696
  · exact .inl (eqk _ (by omega) e0)
  by_cases e1 : p0.toNat = 61952
  · exact .inr (.inl (eqk _ (by omega) e1))
  by_cases e2 : p0.toNat = 62208
  · exact .inr (.inr (.inl (eqk _ (by omega) e2)))
  by_cases e3 : p0.toNat = 62464
  · exact .inr (.inr (.inr (.inl (eqk _ (by omega) e3))))
  by_cases e4 : p0.toNat = 62720
  · exact .inr (.inr (.inr (.inr (.inl (eqk _ (by omega) e4)))))
  by_cases e5 : p0.toNat = 62976
  · exact .inr (.inr (.inr (.inr (.inr (.inl (eqk _ (by omega) e5))))))
  refine .inr (.inr (.inr (.inr (.inr (.inr ⟨nek 0 (by omega) (by omega), nek 1 (by omega) (by omega), nek 2 (by omega) (by omega), nek 3 (by omega) (by omega), nek 4 (by omega) (by omega), nek 5 (by omega) (by omega), ?_, ?_, ?_, ?_⟩)))))
  · simp only [BitVec.ule, h3]; simp; omega
  · rintro rfl; simp at h0
  · rintro rfl; simp at h0
  · simp [BitVec.ult]; omega
theorem kk0 {p1 : BitVec 8} (h : p1 % 4#8 = 0#8) : KK p1 = 1 := by unfold KK; rw [h]; rfl
theorem kk1 {p1 : BitVec 8} (h : p1 % 4#8 = 1#8) : KK p1 = 2 := by unfold KK; rw [h]; rfl
theorem kk2 {p1 : BitVec 8} (h : p1 % 4#8 = 2#8) : KK p1 = 4 := by unfold KK; rw [h]; rfl
theorem kk3 {p1 : BitVec 8} (h : p1 % 4#8 = 3#8) : KK p1 = 8 := by unfold KK; rw [h]; rfl
theorem kkAny (p1 : BitVec 8) : p1 % 4#8 = 0#8 ∨ p1 % 4#8 = 1#8 ∨ p1 % 4#8 = 2#8 ∨ p1 % 4#8 = 3#8 := by
  have h : (p1 % 4#8).toNat < 4 := by rw [BitVec.toNat_umod]; exact Nat.mod_lt _ (by decide)
  have e : ∀ k, k < 4 → (p1 % 4#8).toNat = k → p1 % 4#8 = BitVec.ofNat 8 k := fun k hk e => BitVec.eq_of_toNat_eq (by rw [e]; simp; omega)
  have : (p1 % 4#8).toNat = 0 ∨ (p1 % 4#8).toNat = 1 ∨ (p1 % 4#8).toNat = 2 ∨ (p1 % 4#8).toNat = 3 := by omega
  rcases this with h | h | h | h
  · exact .inl (e _ (by decide) h)
  · exact .inr (.inl (e _ (by decide) h))
  · exact .inr (.inr (.inl (e _ (by decide) h)))
  · exact .inr (.inr (.inr (e _ (by decide) h)))
end Go.X.M
