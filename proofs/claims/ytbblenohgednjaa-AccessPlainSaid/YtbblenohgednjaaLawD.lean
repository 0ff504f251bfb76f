import Derived.Test.YtbblenohgednjaaLawC
/- The statement on each way: plain facts on numbers and bytes, under the conditions that each theorem names. -/
set_option maxRecDepth 100000
set_option linter.all false
namespace Go.X.M
open Go Go.X
theorem ok_w8alarm (o : Orc) (p0 : BitVec 64) (p1 : BitVec 8) (p2 : BitVec 64) (hn : KK p1 = 8) (hp : p0 = 61448#64) : (nd_w8alarm o p0 p1 p2).ok := by
  subst hp
  simp only [nd_w8alarm, PL_eq, al4, bad1, bad2, hn]
  simp [Nd.ok, known_ok, hn, al4, bad1, bad2]
theorem ok_w8time (o : Orc) (p0 : BitVec 64) (p1 : BitVec 8) (p2 : BitVec 64) (hn : KK p1 = 8) (hp : p0 = 61440#64) : (nd_w8time o p0 p1 p2).ok ∧ m_w8time_0 p0 p1 p2 = true := by
  subst hp
  have hm : m_mem_check_0 61440#64 8 = 60 := by rfl
  constructor
  · simp only [nd_w8time, PL_eq, al4, bad1, bad2, hm, hn]
    simp [Nd.ok, known_ok, hn, al4, bad1, bad2]
  · simp [m_w8time_0, bad1, bad2]
theorem ok_w1con0 (o : Orc) (p0 : BitVec 64) (p1 : BitVec 8) (p2 : BitVec 64) (hn : KK p1 = 1) (hp : p0 = 61696#64) : (nd_w1con0 o p0 p1 p2).ok := by
  subst hp
  have hm : m_mem_check_0 61696#64 1 = 60 := by rfl
  simp only [nd_w1con0, PL_eq, al4, bad1, bad2, hm, hn]
  simp [Nd.ok, known_ok, hn, al4, bad1, bad2]
  omega
theorem ok_w1con1 (o : Orc) (p0 : BitVec 64) (p1 : BitVec 8) (p2 : BitVec 64) (hn : KK p1 = 1) (hp : p0 = 61952#64) : (nd_w1con1 o p0 p1 p2).ok := by
  subst hp
  have hm : m_mem_check_0 61952#64 1 = 60 := by rfl
  simp only [nd_w1con1, PL_eq, al4, bad1, bad2, hm, hn]
  simp [Nd.ok, known_ok, hn, al4, bad1, bad2]
  omega
theorem ok_w1con2 (o : Orc) (p0 : BitVec 64) (p1 : BitVec 8) (p2 : BitVec 64) (hn : KK p1 = 1) (hp : p0 = 62208#64) : (nd_w1con2 o p0 p1 p2).ok := by
  subst hp
  have hm : m_mem_check_0 62208#64 1 = 60 := by rfl
  simp only [nd_w1con2, PL_eq, al4, bad1, bad2, hm, hn]
  simp [Nd.ok, known_ok, hn, al4, bad1, bad2]
  omega
theorem ok_w1con3 (o : Orc) (p0 : BitVec 64) (p1 : BitVec 8) (p2 : BitVec 64) (hn : KK p1 = 1) (hp : p0 = 62464#64) : (nd_w1con3 o p0 p1 p2).ok := by
  subst hp
  have hm : m_mem_check_0 62464#64 1 = 60 := by rfl
  simp only [nd_w1con3, PL_eq, al4, bad1, bad2, hm, hn]
  simp [Nd.ok, known_ok, hn, al4, bad1, bad2]
  omega
theorem ok_w1con4 (o : Orc) (p0 : BitVec 64) (p1 : BitVec 8) (p2 : BitVec 64) (hn : KK p1 = 1) (hp : p0 = 62720#64) : (nd_w1con4 o p0 p1 p2).ok ∧ m_w1con4_0 p0 p1 p2 = true := by
  subst hp
  have hm : m_mem_check_0 62720#64 1 = 60 := by rfl
  constructor
  · simp only [nd_w1con4, PL_eq, al4, bad1, bad2, hm, hn]
    simp [Nd.ok, known_ok, hn, al4, bad1, bad2]
  · simp [m_w1con4_0, bad1, bad2]
theorem ok_w1con5 (o : Orc) (p0 : BitVec 64) (p1 : BitVec 8) (p2 : BitVec 64) (hn : KK p1 = 1) (hp : p0 = 62976#64) : (nd_w1con5 o p0 p1 p2).ok ∧ m_w1con5_0 p0 p1 p2 = true := by
  subst hp
  have hm : m_mem_check_0 62976#64 1 = 60 := by rfl
  constructor
  · simp only [nd_w1con5, PL_eq, al4, bad1, bad2, hm, hn]
    simp [Nd.ok, known_ok, hn, al4, bad1, bad2]
  · simp [m_w1con5_0, bad1, bad2]
theorem ok_w1pbey (o : Orc) (p0 : BitVec 64) (p1 : BitVec 8) (p2 : BitVec 64) (hn : KK p1 = 1) (hU : p0.ult 32768#64 = false) (hU' : (32768#64).ule p0 = true) (hC : p0.ult 61696#64 = false) (hM : (p0 - 61696#64) % 256#64 = 0#64)
    (h0 : ¬ (p0 - 61696#64) / 256#64 = 0#64) (h1 : ¬ (p0 - 61696#64) / 256#64 = 1#64) (h2 : ¬ (p0 - 61696#64) / 256#64 = 2#64) (h3 : ¬ (p0 - 61696#64) / 256#64 = 3#64) (h4 : ¬ (p0 - 61696#64) / 256#64 = 4#64) (h5 : ¬ (p0 - 61696#64) / 256#64 = 5#64)
    (h6 : (4#64).ule ((p0 - 61696#64) / 256#64) = true) (hT : ¬ p0 = 61448#64) (hS : ¬ p0 = 61440#64) (hD : p0.ult 62720#64 = false) : (nd_w1pbey o p0 p1 p2).ok ∧ m_w1pbey_0 p0 p1 p2 = true := by
  have hm : m_mem_check_0 p0 1 = 60 := by rw [mc p0 1 (by simp) (by simp), if_pos hU']
  constructor
  · simp only [nd_w1pbey, PL_eq, al4, bad1, bad2, hm, hn]
    simp [Nd.ok, known_ok, hn, hU, hC, hM, h0, h1, h2, h3, h4, h5, h6, hT, hS, hD, al4, bad1, bad2]
  · simp [m_w1pbey_0, bad1, bad2]
end Go.X.M
