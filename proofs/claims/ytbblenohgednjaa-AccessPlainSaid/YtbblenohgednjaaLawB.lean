import Derived.Test.YtbblenohgednjaaLawA
/- The statement on each way: plain facts on numbers and bytes, under the conditions that each theorem names. -/
set_option maxRecDepth 100000
set_option linter.all false
namespace Go.X.M
open Go Go.X
theorem size_bytesOf (n : Nat) (f : Nat → BitVec 8) : (bytesOf n f).size = n := by simp [bytesOf, ByteArray.size]
theorem byteAt_bytesOf (n : Nat) (f : Nat → BitVec 8) (i : Nat) (h : i < n) : byteAt (bytesOf n f) i = f i := by
  simp [byteAt, bytesOf, h]
theorem bytesOf_congr {n : Nat} {f g : Nat → BitVec 8} (h : ∀ i, i < n → f i = g i) : bytesOf n f = bytesOf n g := by
  unfold bytesOf
  congr 2
  exact List.map_congr_left fun i hi => by rw [h i (by simpa using hi)]
theorem extract_all (b : ByteArray) : b.extract 0 b.size = b := by simp
def rowOf (v : BitVec 64) (i : Nat) : BitVec 8 := BitVec.setWidth 8 (v >>> (8 * i))
theorem bytes_row (v : BitVec 64) (n : Nat) (hn : n = 1 ∨ n = 2 ∨ n = 4 ∨ n = 8) : m_word_Bytes_0 v (n : Int) = bytesOf n (rowOf v) := by
  have key : ∀ i, i < 8 → (upd (upd (upd (upd (upd (upd (upd (upd (fun _ => BitVec.ofNat 8 0) (0 + 0) (BitVec.setWidth 8 (v >>> (0 : Nat)))) (0 + 1) (BitVec.setWidth 8 (v >>> (8 : Nat)))) (0 + 2) (BitVec.setWidth 8 (v >>> (16 : Nat)))) (0 + 3) (BitVec.setWidth 8 (v >>> (24 : Nat)))) (0 + 4) (BitVec.setWidth 8 (v >>> (32 : Nat)))) (0 + 5) (BitVec.setWidth 8 (v >>> (40 : Nat)))) (0 + 6) (BitVec.setWidth 8 (v >>> (48 : Nat)))) (0 + 7) (BitVec.setWidth 8 (v >>> (56 : Nat)))) i = rowOf v i := by
    intro i hi
    have : i = 0 ∨ i = 1 ∨ i = 2 ∨ i = 3 ∨ i = 4 ∨ i = 5 ∨ i = 6 ∨ i = 7 := by omega
    rcases this with rfl | rfl | rfl | rfl | rfl | rfl | rfl | rfl <;> rfl
  unfold m_word_Bytes_0
  rcases hn with rfl | rfl | rfl | rfl <;> exact bytesOf_congr fun i hi => key i (by simp at hi; omega)
theorem laid_row (f : Nat → BitVec 8) (v : BitVec 64) (n a : Nat) (hn : n = 1 ∨ n = 2 ∨ n = 4 ∨ n = 8) (h : a + n ≤ 32768) :
    (bytesOf n fun i => laid f (fun i => byteAt (m_word_Bytes_0 v (n : Int)) i) (if a = 32768 then 0 else a) (min (m_word_Bytes_0 v (n : Int)).size (32768 - a)) ((if a = 32768 then 0 else a) + i)) = bytesOf n (rowOf v) := by
  rw [bytes_row v n hn, size_bytesOf]
  have ha : ¬ a = 32768 := by omega
  refine bytesOf_congr fun i hi => ?_
  rw [if_neg ha, laid, if_pos (by omega), Nat.add_sub_cancel_left, byteAt_bytesOf _ _ _ hi]
theorem part (v : BitVec 64) (k : Nat) : (BitVec.setWidth 64 (BitVec.setWidth 8 (v >>> k))) <<< k = v &&& (255#64 <<< k) := by
  apply BitVec.eq_of_getLsbD_eq
  intro i hi
  simp only [BitVec.getLsbD_shiftLeft, BitVec.getLsbD_setWidth, BitVec.getLsbD_ushiftRight, BitVec.getLsbD_and]
  by_cases hk : i < k
  · simp [hk]
  · have e : k + (i - k) = i := by omega
    have e2 : (255#64).getLsbD (i - k) = decide (i - k < 8) := by
      have : (255#64).getLsbD (i - k) = (255 : Nat).testBit (i - k) := by
        simp only [BitVec.getLsbD, BitVec.toNat_ofNat]
      rw [this, show (255 : Nat) = 2 ^ 8 - 1 from rfl, Nat.testBit_two_pow_sub_one]
    simp only [hk, e, e2, hi, decide_true, decide_false, Bool.not_false, Bool.true_and, Bool.and_true]
    have h64 : i - k < 64 := by omega
    simp only [h64, decide_true, Bool.true_and]
    rw [Bool.and_comm]
theorem get_row (v : BitVec 64) (n : Nat) (hn : n = 1 ∨ n = 2 ∨ n = 4 ∨ n = 8) : m_word_Get_0 (bytesOf n (rowOf v)) 0 (n : Int) = m_sallyportref1_Zext_0 v (8 * n : Nat) := by
  have hb : ∀ i, i < n → byteAt (bytesOf n (rowOf v)) i = rowOf v i := fun i hi => byteAt_bytesOf n _ i hi
  have p0 := part v 0
  have p1 := part v 8
  have p2 := part v 16
  have p3 := part v 24
  have p4 := part v 32
  have p5 := part v 40
  have p6 := part v 48
  have p7 := part v 56
  have dis : ∀ a b : BitVec 64, (v &&& a ||| v &&& b) = v &&& (a ||| b) := fun a b => (BitVec.and_or_distrib_left).symm
  have hx : (bytesOf n (rowOf v)).extract 0 n = bytesOf n (rowOf v) := by
    have := extract_all (bytesOf n (rowOf v)); rwa [size_bytesOf] at this
  rcases hn with rfl | rfl | rfl | rfl
  · simp [m_word_Get_0, size_bytesOf, laid, hx, byteAt_bytesOf, rowOf]
    simp at p0
    rw [p0]; rfl
  · simp [m_word_Get_0, size_bytesOf, laid, hx, byteAt_bytesOf, rowOf]
    simp at p0 p1
    rw [p0, p1, dis]; rfl
  · simp [m_word_Get_0, size_bytesOf, laid, hx, byteAt_bytesOf, rowOf]
    simp at p0 p1 p2 p3
    rw [p0, p1, p2, p3, dis, dis, dis]; rfl
  · simp [m_word_Get_0, size_bytesOf, laid, hx, byteAt_bytesOf, rowOf]
    simp at p0 p1 p2 p3 p4 p5 p6 p7
    rw [p0, p1, p2, p3, p4, p5, p6, p7, dis, dis, dis, dis, dis, dis, dis]
    show v &&& 18446744073709551615#64 = v
    rw [show (18446744073709551615#64) = BitVec.allOnes 64 from rfl, BitVec.and_allOnes]
end Go.X.M
