import Derived.Test.YtbblenohgednjaaMods
import Derived.Test.YtbblenohgednjaaX28
/- The statement on each way: plain facts on numbers and bytes, under the conditions that each theorem names. -/
set_option maxRecDepth 100000
namespace Go.X.M
open Go Go.X
theorem al4 (p0 : BitVec 64) (n k : Int) (hn : n = 1 ∨ n = 2 ∨ n = 4 ∨ n = 8) : m_access_Aligned_4 p0 n k false = decide (p0 % BitVec.ofInt 64 n = 0#64) := by
  rcases hn with rfl | rfl | rfl | rfl <;> simp [m_access_Aligned_4]
theorem bad2 (p0 : BitVec 64) : m_access_Bad_0 p0 2 false = 7#64 := by rfl
theorem bad1 (p0 : BitVec 64) : m_access_Bad_0 p0 1 false = 5#64 := by rfl
theorem mc (p0 : BitVec 64) (n : Int) (hn : n = 1 ∨ n = 2 ∨ n = 4 ∨ n = 8) (h : p0 % BitVec.ofInt 64 n = 0#64) : m_mem_check_0 p0 n = if (32768#64).ule p0 = true then 60 else 0 := by
  rcases hn with rfl | rfl | rfl | rfl <;> simp [m_mem_check_0] <;> simp at h <;> simp [h]
theorem al0_2 (p0 : BitVec 64) (n : Int) (hn : n = 1 ∨ n = 2 ∨ n = 4 ∨ n = 8) (h : ¬ p0 % BitVec.ofInt 64 n = 0#64) : m_access_Aligned_0 p0 n 2 false = 6#64 := by
  rcases hn with rfl | rfl | rfl | rfl <;> simp [m_access_Aligned_0] <;> simp at h <;> simp [h] <;> rfl
theorem al0_1 (p0 : BitVec 64) (n : Int) (hn : n = 1 ∨ n = 2 ∨ n = 4 ∨ n = 8) (h : ¬ p0 % BitVec.ofInt 64 n = 0#64) : m_access_Aligned_0 p0 n 1 false = 4#64 := by
  rcases hn with rfl | rfl | rfl | rfl <;> simp [m_access_Aligned_0] <;> simp at h <;> simp [h] <;> rfl
theorem al1_2 (p0 : BitVec 64) (n : Int) (hn : n = 1 ∨ n = 2 ∨ n = 4 ∨ n = 8) (h : ¬ p0 % BitVec.ofInt 64 n = 0#64) : m_access_Aligned_1 p0 n 2 false = p0 := by
  rcases hn with rfl | rfl | rfl | rfl <;> simp [m_access_Aligned_1] <;> simp at h <;> simp [h]
theorem getOk (b : ByteArray) (n : Int) (hn : n = 1 ∨ n = 2 ∨ n = 4 ∨ n = 8) : (nd_word_Get b 0 n).ok := by
  rcases hn with rfl | rfl | rfl | rfl <;> simp [nd_word_Get, Nd.ok] <;> omega
theorem extOk (v : BitVec 64) : (nd_alu_Extend 15 v).ok := by
  have e : IntKind.i64.wrap ((8 : Int) * m_insn_Size_0 15) = 8 := by rfl
  simp only [nd_alu_Extend, Nd.ok, e]
  simp [nd_word_Zext, nd_word_mask, Nd.ok]
theorem known_ok : nd_sallyportlaw17_known.ok := by
  simp [nd_sallyportlaw17_known, Nd.ok, extOk]
  exact ⟨getOk _ _ (by simp), getOk _ _ (by simp)⟩
end Go.X.M
