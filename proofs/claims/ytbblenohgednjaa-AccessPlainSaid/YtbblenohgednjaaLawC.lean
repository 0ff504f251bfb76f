import Derived.Test.YtbblenohgednjaaLawB
import Derived.Test.YtbblenohgednjaaWays
/- The statement on each way: plain facts on numbers and bytes, under the conditions that each theorem names. -/
set_option maxRecDepth 100000
set_option linter.all false
namespace Go.X.M
open Go Go.X
theorem PL_eq (p0 : BitVec 64) : PL p0 = p0 := by simp [PL]
abbrev KK (p1 : BitVec 8) : Int := IntKind.i64.wrap ((1 : Int) * (2 : Int) ^ min (BitVec.setWidth (64 : Nat) (p1 % BitVec.ofNat (8 : Nat) (4 : Nat))).toNat (64 : Nat))
theorem ok_w2mis (o : Orc) (p0 : BitVec 64) (p1 : BitVec 8) (p2 : BitVec 64) (hn : KK p1 = 2) (hA : ¬ p0 % 2#64 = 0#64) : (nd_w2mis o p0 p1 p2).ok ∧ m_w2mis_0 p0 p1 p2 = true := by
  have e1 := al0_2 p0 2 (by simp) hA
  have e2 := al0_1 p0 2 (by simp) hA
  have e3 := al1_2 p0 2 (by simp) hA
  constructor
  · simp only [nd_w2mis, PL_eq, al4, bad1, bad2, e1, e2, e3, hn]
    simp [Nd.ok, known_ok, hn, hA, al4, bad1, bad2]
  · simp [m_w2mis_0, e1, e2, e3]
theorem ok_w2mem (o : Orc) (p0 : BitVec 64) (p1 : BitVec 8) (p2 : BitVec 64) (hn : KK p1 = 2) (hA : p0 % 2#64 = 0#64)  (hU : p0.ult 32768#64 = true) (hU' : (32768#64).ule p0 = false) (hT : ¬ p0 = 61448#64) (hS : ¬ p0 = 61440#64) (hb : p0.toNat + 2 ≤ 32768) : (nd_w2mem o p0 p1 p2).ok ∧ m_w2mem_0 p0 p1 p2 = true := by
  have hm : m_mem_check_0 p0 2 = 0 := by rw [mc p0 2 (by simp) hA, if_neg (by simp [hU'])]
  have h1 : ((p0.toNat : Int) + 2) % 18446744073709551616 = p0.toNat + 2 := by omega
  have h2 : ((p0.toNat : Int) + 2).toNat - p0.toNat = 2 := by omega
  have h3 : ¬ p0.toNat = 32768 := by omega
  have hr := fun f => laid_row f p2 2 p0.toNat (by simp) hb
  have hs : (m_word_Bytes_0 p2 2).size = 2 := by
    have := bytes_row p2 2 (by simp)
    rw [show ((2 : Nat) : Int) = 2 from rfl] at this
    rw [this, size_bytesOf]
  have hg := get_row p2 2 (by simp)
  constructor
  · simp only [nd_w2mem, PL_eq, al4, bad1, bad2, hm, hn]
    simp [Nd.ok, known_ok, hn, hA, hU, hT, hS, al4, bad1, bad2, h1, h2, h3, hs, getOk]
    omega
  · simp [m_w2mem_0, PL_eq, bad1, bad2, hm, h1, h2]
    exact (congrArg (fun b => m_word_Get_0 b 0 2) (hr _)).trans hg
theorem ok_w2dev (o : Orc) (p0 : BitVec 64) (p1 : BitVec 8) (p2 : BitVec 64) (hn : KK p1 = 2) (hA : p0 % 2#64 = 0#64) (hU : p0.ult 32768#64 = false) (hU' : (32768#64).ule p0 = true)  (hD : (61440#64).ule p0 = true) (hD2 : p0.ult 62720#64 = true) : (nd_w2dev o p0 p1 p2).ok ∧ m_w2dev_0 p0 p1 p2 = true := by
  have hm : m_mem_check_0 p0 2 = 60 := by rw [mc p0 2 (by simp) hA, if_pos hU']
  constructor
  · simp only [nd_w2dev, PL_eq, al4, bad1, bad2, hm, hn]
    simp [Nd.ok, known_ok, hn, hA, hU, hD, hD2, al4, bad1, bad2]
  · simp [m_w2dev_0, PL_eq, bad1, bad2, hm, hD, hD2]
theorem ok_w2bey (o : Orc) (p0 : BitVec 64) (p1 : BitVec 8) (p2 : BitVec 64) (hn : KK p1 = 2) (hA : p0 % 2#64 = 0#64) (hU : p0.ult 32768#64 = false) (hU' : (32768#64).ule p0 = true)  (hD : ¬ ((61440#64).ule p0 = true ∧ p0.ult 62720#64 = true)) : (nd_w2bey o p0 p1 p2).ok ∧ m_w2bey_0 p0 p1 p2 = true := by
  have hm : m_mem_check_0 p0 2 = 60 := by rw [mc p0 2 (by simp) hA, if_pos hU']
  have hD' : (61440#64).ule p0 = false ∨ p0.ult 62720#64 = false := by
    cases h1 : (61440#64).ule p0 <;> cases h2 : p0.ult 62720#64 <;> simp [h1, h2] at hD ⊢
  rcases hD' with hD1 | hD1
  all_goals constructor
  all_goals first
    | (simp [m_w2bey_0, PL_eq, bad1, bad2, hm, hD1]; done)
    | (simp only [nd_w2bey, PL_eq, al4, bad1, bad2, hm, hn]; simp [Nd.ok, known_ok, hn, hA, hU, hD1, al4, bad1, bad2]; done)
    | (simp only [nd_w2bey, PL_eq, al4, bad1, bad2, hm, hn]; simp [Nd.ok, known_ok, hn, hA, hU, hD1, al4, bad1, bad2]; simp_all; done)
theorem ok_w4mis (o : Orc) (p0 : BitVec 64) (p1 : BitVec 8) (p2 : BitVec 64) (hn : KK p1 = 4) (hA : ¬ p0 % 4#64 = 0#64) : (nd_w4mis o p0 p1 p2).ok ∧ m_w4mis_0 p0 p1 p2 = true := by
  have e1 := al0_2 p0 4 (by simp) hA
  have e2 := al0_1 p0 4 (by simp) hA
  have e3 := al1_2 p0 4 (by simp) hA
  constructor
  · simp only [nd_w4mis, PL_eq, al4, bad1, bad2, e1, e2, e3, hn]
    simp [Nd.ok, known_ok, hn, hA, al4, bad1, bad2]
  · simp [m_w4mis_0, e1, e2, e3]
theorem ok_w4mem (o : Orc) (p0 : BitVec 64) (p1 : BitVec 8) (p2 : BitVec 64) (hn : KK p1 = 4) (hA : p0 % 4#64 = 0#64)  (hU : p0.ult 32768#64 = true) (hU' : (32768#64).ule p0 = false) (hT : ¬ p0 = 61448#64) (hS : ¬ p0 = 61440#64) (hb : p0.toNat + 4 ≤ 32768) : (nd_w4mem o p0 p1 p2).ok ∧ m_w4mem_0 p0 p1 p2 = true := by
  have hm : m_mem_check_0 p0 4 = 0 := by rw [mc p0 4 (by simp) hA, if_neg (by simp [hU'])]
  have h1 : ((p0.toNat : Int) + 4) % 18446744073709551616 = p0.toNat + 4 := by omega
  have h2 : ((p0.toNat : Int) + 4).toNat - p0.toNat = 4 := by omega
  have h3 : ¬ p0.toNat = 32768 := by omega
  have hr := fun f => laid_row f p2 4 p0.toNat (by simp) hb
  have hs : (m_word_Bytes_0 p2 4).size = 4 := by
    have := bytes_row p2 4 (by simp)
    rw [show ((4 : Nat) : Int) = 4 from rfl] at this
    rw [this, size_bytesOf]
  have hg := get_row p2 4 (by simp)
  constructor
  · simp only [nd_w4mem, PL_eq, al4, bad1, bad2, hm, hn]
    simp [Nd.ok, known_ok, hn, hA, hU, hT, hS, al4, bad1, bad2, h1, h2, h3, hs, getOk]
    omega
  · simp [m_w4mem_0, PL_eq, bad1, bad2, hm, h1, h2]
    exact (congrArg (fun b => m_word_Get_0 b 0 4) (hr _)).trans hg
theorem ok_w4dev (o : Orc) (p0 : BitVec 64) (p1 : BitVec 8) (p2 : BitVec 64) (hn : KK p1 = 4) (hA : p0 % 4#64 = 0#64) (hU : p0.ult 32768#64 = false) (hU' : (32768#64).ule p0 = true)  (hD : (61440#64).ule p0 = true) (hD2 : p0.ult 62720#64 = true) : (nd_w4dev o p0 p1 p2).ok ∧ m_w4dev_0 p0 p1 p2 = true := by
  have hm : m_mem_check_0 p0 4 = 60 := by rw [mc p0 4 (by simp) hA, if_pos hU']
  constructor
  · simp only [nd_w4dev, PL_eq, al4, bad1, bad2, hm, hn]
    simp [Nd.ok, known_ok, hn, hA, hU, hD, hD2, al4, bad1, bad2]
  · simp [m_w4dev_0, PL_eq, bad1, bad2, hm, hD, hD2]
theorem ok_w4bey (o : Orc) (p0 : BitVec 64) (p1 : BitVec 8) (p2 : BitVec 64) (hn : KK p1 = 4) (hA : p0 % 4#64 = 0#64) (hU : p0.ult 32768#64 = false) (hU' : (32768#64).ule p0 = true)  (hD : ¬ ((61440#64).ule p0 = true ∧ p0.ult 62720#64 = true)) : (nd_w4bey o p0 p1 p2).ok ∧ m_w4bey_0 p0 p1 p2 = true := by
  have hm : m_mem_check_0 p0 4 = 60 := by rw [mc p0 4 (by simp) hA, if_pos hU']
  have hD' : (61440#64).ule p0 = false ∨ p0.ult 62720#64 = false := by
    cases h1 : (61440#64).ule p0 <;> cases h2 : p0.ult 62720#64 <;> simp [h1, h2] at hD ⊢
  rcases hD' with hD1 | hD1
  all_goals constructor
  all_goals first
    | (simp [m_w4bey_0, PL_eq, bad1, bad2, hm, hD1]; done)
    | (simp only [nd_w4bey, PL_eq, al4, bad1, bad2, hm, hn]; simp [Nd.ok, known_ok, hn, hA, hU, hD1, al4, bad1, bad2]; done)
    | (simp only [nd_w4bey, PL_eq, al4, bad1, bad2, hm, hn]; simp [Nd.ok, known_ok, hn, hA, hU, hD1, al4, bad1, bad2]; simp_all; done)
theorem ok_w8mis (o : Orc) (p0 : BitVec 64) (p1 : BitVec 8) (p2 : BitVec 64) (hn : KK p1 = 8) (hA : ¬ p0 % 8#64 = 0#64) : (nd_w8mis o p0 p1 p2).ok ∧ m_w8mis_0 p0 p1 p2 = true := by
  have e1 := al0_2 p0 8 (by simp) hA
  have e2 := al0_1 p0 8 (by simp) hA
  have e3 := al1_2 p0 8 (by simp) hA
  constructor
  · simp only [nd_w8mis, PL_eq, al4, bad1, bad2, e1, e2, e3, hn]
    simp [Nd.ok, known_ok, hn, hA, al4, bad1, bad2]
  · simp [m_w8mis_0, e1, e2, e3]
theorem ok_w8mem (o : Orc) (p0 : BitVec 64) (p1 : BitVec 8) (p2 : BitVec 64) (hn : KK p1 = 8) (hA : p0 % 8#64 = 0#64)  (hU : p0.ult 32768#64 = true) (hU' : (32768#64).ule p0 = false) (hT : ¬ p0 = 61448#64) (hS : ¬ p0 = 61440#64) (hb : p0.toNat + 8 ≤ 32768) : (nd_w8mem o p0 p1 p2).ok ∧ m_w8mem_0 p0 p1 p2 = true := by
  have hm : m_mem_check_0 p0 8 = 0 := by rw [mc p0 8 (by simp) hA, if_neg (by simp [hU'])]
  have h1 : ((p0.toNat : Int) + 8) % 18446744073709551616 = p0.toNat + 8 := by omega
  have h2 : ((p0.toNat : Int) + 8).toNat - p0.toNat = 8 := by omega
  have h3 : ¬ p0.toNat = 32768 := by omega
  have hr := fun f => laid_row f p2 8 p0.toNat (by simp) hb
  have hs : (m_word_Bytes_0 p2 8).size = 8 := by
    have := bytes_row p2 8 (by simp)
    rw [show ((8 : Nat) : Int) = 8 from rfl] at this
    rw [this, size_bytesOf]
  have hg := get_row p2 8 (by simp)
  constructor
  · simp only [nd_w8mem, PL_eq, al4, bad1, bad2, hm, hn]
    simp [Nd.ok, known_ok, hn, hA, hU, hT, hS, al4, bad1, bad2, h1, h2, h3, hs, getOk]
    omega
  · simp [m_w8mem_0, PL_eq, bad1, bad2, hm, h1, h2]
    exact (congrArg (fun b => m_word_Get_0 b 0 8) (hr _)).trans hg
theorem ok_w8dev (o : Orc) (p0 : BitVec 64) (p1 : BitVec 8) (p2 : BitVec 64) (hn : KK p1 = 8) (hA : p0 % 8#64 = 0#64) (hU : p0.ult 32768#64 = false) (hU' : (32768#64).ule p0 = true) (hT : ¬ p0 = 61448#64) (hS : ¬ p0 = 61440#64) (hD : (61440#64).ule p0 = true) (hD2 : p0.ult 62720#64 = true) : (nd_w8dev o p0 p1 p2).ok ∧ m_w8dev_0 p0 p1 p2 = true := by
  have hm : m_mem_check_0 p0 8 = 60 := by rw [mc p0 8 (by simp) hA, if_pos hU']
  constructor
  · simp only [nd_w8dev, PL_eq, al4, bad1, bad2, hm, hn]
    simp [Nd.ok, known_ok, hn, hA, hU, hT, hS, hD, hD2, al4, bad1, bad2]
  · simp [m_w8dev_0, PL_eq, bad1, bad2, hm, hD, hD2]
theorem ok_w8bey (o : Orc) (p0 : BitVec 64) (p1 : BitVec 8) (p2 : BitVec 64) (hn : KK p1 = 8) (hA : p0 % 8#64 = 0#64) (hU : p0.ult 32768#64 = false) (hU' : (32768#64).ule p0 = true) (hT : ¬ p0 = 61448#64) (hS : ¬ p0 = 61440#64) (hD : ¬ ((61440#64).ule p0 = true ∧ p0.ult 62720#64 = true)) : (nd_w8bey o p0 p1 p2).ok ∧ m_w8bey_0 p0 p1 p2 = true := by
  have hm : m_mem_check_0 p0 8 = 60 := by rw [mc p0 8 (by simp) hA, if_pos hU']
  have hD' : (61440#64).ule p0 = false ∨ p0.ult 62720#64 = false := by
    cases h1 : (61440#64).ule p0 <;> cases h2 : p0.ult 62720#64 <;> simp [h1, h2] at hD ⊢
  rcases hD' with hD1 | hD1
  all_goals constructor
  all_goals first
    | (simp [m_w8bey_0, PL_eq, bad1, bad2, hm, hD1]; done)
    | (simp only [nd_w8bey, PL_eq, al4, bad1, bad2, hm, hn]; simp [Nd.ok, known_ok, hn, hA, hU, hT, hS, hD1, al4, bad1, bad2]; done)
    | (simp only [nd_w8bey, PL_eq, al4, bad1, bad2, hm, hn]; simp [Nd.ok, known_ok, hn, hA, hU, hT, hS, hD1, al4, bad1, bad2]; simp_all; done)
theorem ok_w1mem (o : Orc) (p0 : BitVec 64) (p1 : BitVec 8) (p2 : BitVec 64) (hn : KK p1 = 1)  (hC : p0.ult 61696#64 = true) (hU : p0.ult 32768#64 = true) (hU' : (32768#64).ule p0 = false) (hT : ¬ p0 = 61448#64) (hS : ¬ p0 = 61440#64) (hb : p0.toNat + 1 ≤ 32768) : (nd_w1mem o p0 p1 p2).ok ∧ m_w1mem_0 p0 p1 p2 = true := by
  have hm : m_mem_check_0 p0 1 = 0 := by rw [mc p0 1 (by simp) (by simp), if_neg (by simp [hU'])]
  have h1 : ((p0.toNat : Int) + 1) % 18446744073709551616 = p0.toNat + 1 := by omega
  have h2 : ((p0.toNat : Int) + 1).toNat - p0.toNat = 1 := by omega
  have h3 : ¬ p0.toNat = 32768 := by omega
  have hr := fun f => laid_row f p2 1 p0.toNat (by simp) hb
  have hs : (m_word_Bytes_0 p2 1).size = 1 := by
    have := bytes_row p2 1 (by simp)
    rw [show ((1 : Nat) : Int) = 1 from rfl] at this
    rw [this, size_bytesOf]
  have hg := get_row p2 1 (by simp)
  constructor
  · simp only [nd_w1mem, PL_eq, al4, bad1, bad2, hm, hn]
    simp [Nd.ok, known_ok, hn, hC, hU, hT, hS, al4, bad1, bad2, h1, h2, h3, hs, getOk]
    omega
  · simp [m_w1mem_0, PL_eq, bad1, bad2, hm, h1, h2]
    exact (congrArg (fun b => m_word_Get_0 b 0 1) (hr _)).trans hg
theorem ok_w1dev (o : Orc) (p0 : BitVec 64) (p1 : BitVec 8) (p2 : BitVec 64) (hn : KK p1 = 1)  (hU : p0.ult 32768#64 = false) (hU' : (32768#64).ule p0 = true)  (hC : (p0.ult 61696#64 = true) ∨ ¬ (p0 - 61696#64) % 256#64 = 0#64) (hD : (61440#64).ule p0 = true) (hD2 : p0.ult 62720#64 = true) : (nd_w1dev o p0 p1 p2).ok ∧ m_w1dev_0 p0 p1 p2 = true := by
  have hm : m_mem_check_0 p0 1 = 60 := by rw [mc p0 1 (by simp) (by simp), if_pos hU']
  rcases hC with hC | hC
  all_goals constructor
  all_goals first
    | (simp [m_w1dev_0, PL_eq, bad1, bad2, hm, hC, hD, hD2]; done)
    | (simp only [nd_w1dev, PL_eq, al4, bad1, bad2, hm, hn]; simp [Nd.ok, known_ok, hn, hU, hC, hD, hD2, al4, bad1, bad2]; done)
    | (simp only [nd_w1dev, PL_eq, al4, bad1, bad2, hm, hn]; simp [Nd.ok, known_ok, hn, hU, hC, hD, hD2, al4, bad1, bad2]; simp_all; done)
theorem ok_w1bey (o : Orc) (p0 : BitVec 64) (p1 : BitVec 8) (p2 : BitVec 64) (hn : KK p1 = 1)  (hU : p0.ult 32768#64 = false) (hU' : (32768#64).ule p0 = true)  (hC : (p0.ult 61696#64 = true) ∨ ¬ (p0 - 61696#64) % 256#64 = 0#64) (hD : ¬ ((61440#64).ule p0 = true ∧ p0.ult 62720#64 = true)) : (nd_w1bey o p0 p1 p2).ok ∧ m_w1bey_0 p0 p1 p2 = true := by
  have hm : m_mem_check_0 p0 1 = 60 := by rw [mc p0 1 (by simp) (by simp), if_pos hU']
  have hD' : (61440#64).ule p0 = false ∨ p0.ult 62720#64 = false := by
    cases h1 : (61440#64).ule p0 <;> cases h2 : p0.ult 62720#64 <;> simp [h1, h2] at hD ⊢
  rcases hC with hC | hC
  all_goals rcases hD' with hD1 | hD1
  all_goals constructor
  all_goals first
    | (simp [m_w1bey_0, PL_eq, bad1, bad2, hm, hC, hD1]; done)
    | (simp only [nd_w1bey, PL_eq, al4, bad1, bad2, hm, hn]; simp [Nd.ok, known_ok, hn, hU, hC, hD1, al4, bad1, bad2]; done)
    | (simp only [nd_w1bey, PL_eq, al4, bad1, bad2, hm, hn]; simp [Nd.ok, known_ok, hn, hU, hC, hD1, al4, bad1, bad2]; simp_all; done)
end Go.X.M
