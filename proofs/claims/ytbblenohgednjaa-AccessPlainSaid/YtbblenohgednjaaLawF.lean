import Derived.Test.YtbblenohgednjaaProg
import Derived.Test.YtbblenohgednjaaLawE
import Derived.Test.YtbblenohgednjaaTies
/- The statement on each way: plain facts on numbers and bytes, under the conditions that each theorem names. -/
set_option maxRecDepth 100000
set_option linter.all false
namespace Go.X.M
open Go Go.X Go.Proofs
theorem envAP : EnvOk E_sallyportlaw17_AccessPlain := (envOf_ok ⟨pureE_ok tie_sallyportlaw17_known, pureE_ok tie_sallyportref1_Zext, ⟨tieR_access_Do, fun _ _ _ _ => rfl⟩, ⟨tieR_bus_Bus_IsDevice, fun _ _ _ _ => rfl⟩, trivial⟩ ⟨tieB_bus_New, tieB_access_Do, trivial⟩)
def argsAP (p0 : BitVec 64) (p1 : BitVec 8) (p2 : BitVec 64) : List V := [.sc (.u64 false p0), .sc (.u8 false p1), .sc (.u64 false p2)]
def GoalAP (p0 : BitVec 64) (p1 : BitVec 8) (p2 : BitVec 64) : Prop := ∀ (ρ : Nat → Addr) (w : World), Calls Try.prog 3 ((argsAP p0 p1 p2).map (V.enc ρ)).toArray w fun e w' => e = .returned (.bool true) ∧ Fr (fun _ => False) w w'
theorem way_w2mis (p0 : BitVec 64) (p1 : BitVec 8) (p2 : BitVec 64) (h : ∀ o, (nd_w2mis o p0 p1 p2).ok ∧ m_w2mis_0 p0 p1 p2 = true) : GoalAP p0 p1 p2 := fun ρ w =>
  way_ok (E := E_sallyportlaw17_AccessPlain) envAP mixed (g := 3) (fn := Try.f3) (c := Try.f3.body.getD .skip) (by kernel_rfl) (by kernel_rfl) (fl := 70) (pts := [(4, 9, [.int .i64 true 2])]) (args := argsAP p0 p1 p2) rfl (Nat.le_of_ble_eq_true rfl)
    (fun o => ⟨[true,true,true], _, _, ev_w2mis o p0 p1 p2, (h o).1, ⟨_, _, rfl, (h o).2⟩⟩) ρ w
theorem way_w2mem (p0 : BitVec 64) (p1 : BitVec 8) (p2 : BitVec 64) (h : ∀ o, (nd_w2mem o p0 p1 p2).ok ∧ m_w2mem_0 p0 p1 p2 = true) : GoalAP p0 p1 p2 := fun ρ w =>
  way_ok (E := E_sallyportlaw17_AccessPlain) envAP mixed (g := 3) (fn := Try.f3) (c := Try.f3.body.getD .skip) (by kernel_rfl) (by kernel_rfl) (fl := 70) (pts := [(4, 9, [.int .i64 true 2])]) (args := argsAP p0 p1 p2) rfl (Nat.le_of_ble_eq_true rfl)
    (fun o => ⟨[false,false,false,false,false,false,false,false,false,false,true], _, _, ev_w2mem o p0 p1 p2, (h o).1, ⟨_, _, rfl, (h o).2⟩⟩) ρ w
theorem way_w2dev (p0 : BitVec 64) (p1 : BitVec 8) (p2 : BitVec 64) (h : ∀ o, (nd_w2dev o p0 p1 p2).ok ∧ m_w2dev_0 p0 p1 p2 = true) : GoalAP p0 p1 p2 := fun ρ w =>
  way_ok (E := E_sallyportlaw17_AccessPlain) envAP mixed (g := 3) (fn := Try.f3) (c := Try.f3.body.getD .skip) (by kernel_rfl) (by kernel_rfl) (fl := 70) (pts := [(4, 9, [.int .i64 true 2])]) (args := argsAP p0 p1 p2) rfl (Nat.le_of_ble_eq_true rfl)
    (fun o => ⟨[false,false,false,true,true,false,false,false,false,true,false,false,true], _, _, ev_w2dev o p0 p1 p2, (h o).1, ⟨_, _, rfl, (h o).2⟩⟩) ρ w
theorem way_w2bey (p0 : BitVec 64) (p1 : BitVec 8) (p2 : BitVec 64) (h : ∀ o, (nd_w2bey o p0 p1 p2).ok ∧ m_w2bey_0 p0 p1 p2 = true) : GoalAP p0 p1 p2 := fun ρ w =>
  way_ok (E := E_sallyportlaw17_AccessPlain) envAP mixed (g := 3) (fn := Try.f3) (c := Try.f3.body.getD .skip) (by kernel_rfl) (by kernel_rfl) (fl := 70) (pts := [(4, 9, [.int .i64 true 2])]) (args := argsAP p0 p1 p2) rfl (Nat.le_of_ble_eq_true rfl)
    (fun o => ⟨[false,false,false,true,true,false,false,false,false,true,false,false,false], _, _, ev_w2bey o p0 p1 p2, (h o).1, ⟨_, _, rfl, (h o).2⟩⟩) ρ w
theorem way_w4mis (p0 : BitVec 64) (p1 : BitVec 8) (p2 : BitVec 64) (h : ∀ o, (nd_w4mis o p0 p1 p2).ok ∧ m_w4mis_0 p0 p1 p2 = true) : GoalAP p0 p1 p2 := fun ρ w =>
  way_ok (E := E_sallyportlaw17_AccessPlain) envAP mixed (g := 3) (fn := Try.f3) (c := Try.f3.body.getD .skip) (by kernel_rfl) (by kernel_rfl) (fl := 70) (pts := [(4, 9, [.int .i64 true 4])]) (args := argsAP p0 p1 p2) rfl (Nat.le_of_ble_eq_true rfl)
    (fun o => ⟨[true,true,true], _, _, ev_w4mis o p0 p1 p2, (h o).1, ⟨_, _, rfl, (h o).2⟩⟩) ρ w
theorem way_w4mem (p0 : BitVec 64) (p1 : BitVec 8) (p2 : BitVec 64) (h : ∀ o, (nd_w4mem o p0 p1 p2).ok ∧ m_w4mem_0 p0 p1 p2 = true) : GoalAP p0 p1 p2 := fun ρ w =>
  way_ok (E := E_sallyportlaw17_AccessPlain) envAP mixed (g := 3) (fn := Try.f3) (c := Try.f3.body.getD .skip) (by kernel_rfl) (by kernel_rfl) (fl := 70) (pts := [(4, 9, [.int .i64 true 4])]) (args := argsAP p0 p1 p2) rfl (Nat.le_of_ble_eq_true rfl)
    (fun o => ⟨[false,false,false,false,false,false,false,false,false,false,true], _, _, ev_w4mem o p0 p1 p2, (h o).1, ⟨_, _, rfl, (h o).2⟩⟩) ρ w
theorem way_w4dev (p0 : BitVec 64) (p1 : BitVec 8) (p2 : BitVec 64) (h : ∀ o, (nd_w4dev o p0 p1 p2).ok ∧ m_w4dev_0 p0 p1 p2 = true) : GoalAP p0 p1 p2 := fun ρ w =>
  way_ok (E := E_sallyportlaw17_AccessPlain) envAP mixed (g := 3) (fn := Try.f3) (c := Try.f3.body.getD .skip) (by kernel_rfl) (by kernel_rfl) (fl := 70) (pts := [(4, 9, [.int .i64 true 4])]) (args := argsAP p0 p1 p2) rfl (Nat.le_of_ble_eq_true rfl)
    (fun o => ⟨[false,false,false,true,true,false,false,false,false,true,false,false,true], _, _, ev_w4dev o p0 p1 p2, (h o).1, ⟨_, _, rfl, (h o).2⟩⟩) ρ w
theorem way_w4bey (p0 : BitVec 64) (p1 : BitVec 8) (p2 : BitVec 64) (h : ∀ o, (nd_w4bey o p0 p1 p2).ok ∧ m_w4bey_0 p0 p1 p2 = true) : GoalAP p0 p1 p2 := fun ρ w =>
  way_ok (E := E_sallyportlaw17_AccessPlain) envAP mixed (g := 3) (fn := Try.f3) (c := Try.f3.body.getD .skip) (by kernel_rfl) (by kernel_rfl) (fl := 70) (pts := [(4, 9, [.int .i64 true 4])]) (args := argsAP p0 p1 p2) rfl (Nat.le_of_ble_eq_true rfl)
    (fun o => ⟨[false,false,false,true,true,false,false,false,false,true,false,false,false], _, _, ev_w4bey o p0 p1 p2, (h o).1, ⟨_, _, rfl, (h o).2⟩⟩) ρ w
theorem way_w8mis (p0 : BitVec 64) (p1 : BitVec 8) (p2 : BitVec 64) (h : ∀ o, (nd_w8mis o p0 p1 p2).ok ∧ m_w8mis_0 p0 p1 p2 = true) : GoalAP p0 p1 p2 := fun ρ w =>
  way_ok (E := E_sallyportlaw17_AccessPlain) envAP mixed (g := 3) (fn := Try.f3) (c := Try.f3.body.getD .skip) (by kernel_rfl) (by kernel_rfl) (fl := 70) (pts := [(4, 9, [.int .i64 true 8])]) (args := argsAP p0 p1 p2) rfl (Nat.le_of_ble_eq_true rfl)
    (fun o => ⟨[true,true,true], _, _, ev_w8mis o p0 p1 p2, (h o).1, ⟨_, _, rfl, (h o).2⟩⟩) ρ w
theorem way_w8mem (p0 : BitVec 64) (p1 : BitVec 8) (p2 : BitVec 64) (h : ∀ o, (nd_w8mem o p0 p1 p2).ok ∧ m_w8mem_0 p0 p1 p2 = true) : GoalAP p0 p1 p2 := fun ρ w =>
  way_ok (E := E_sallyportlaw17_AccessPlain) envAP mixed (g := 3) (fn := Try.f3) (c := Try.f3.body.getD .skip) (by kernel_rfl) (by kernel_rfl) (fl := 70) (pts := [(4, 9, [.int .i64 true 8])]) (args := argsAP p0 p1 p2) rfl (Nat.le_of_ble_eq_true rfl)
    (fun o => ⟨[false,false,false,false,false,false,false,false,false,false,true], _, _, ev_w8mem o p0 p1 p2, (h o).1, ⟨_, _, rfl, (h o).2⟩⟩) ρ w
theorem way_w8dev (p0 : BitVec 64) (p1 : BitVec 8) (p2 : BitVec 64) (h : ∀ o, (nd_w8dev o p0 p1 p2).ok ∧ m_w8dev_0 p0 p1 p2 = true) : GoalAP p0 p1 p2 := fun ρ w =>
  way_ok (E := E_sallyportlaw17_AccessPlain) envAP mixed (g := 3) (fn := Try.f3) (c := Try.f3.body.getD .skip) (by kernel_rfl) (by kernel_rfl) (fl := 70) (pts := [(4, 9, [.int .i64 true 8])]) (args := argsAP p0 p1 p2) rfl (Nat.le_of_ble_eq_true rfl)
    (fun o => ⟨[false,false,false,true,true,false,false,false,false,true,false,false,true], _, _, ev_w8dev o p0 p1 p2, (h o).1, ⟨_, _, rfl, (h o).2⟩⟩) ρ w
theorem way_w8bey (p0 : BitVec 64) (p1 : BitVec 8) (p2 : BitVec 64) (h : ∀ o, (nd_w8bey o p0 p1 p2).ok ∧ m_w8bey_0 p0 p1 p2 = true) : GoalAP p0 p1 p2 := fun ρ w =>
  way_ok (E := E_sallyportlaw17_AccessPlain) envAP mixed (g := 3) (fn := Try.f3) (c := Try.f3.body.getD .skip) (by kernel_rfl) (by kernel_rfl) (fl := 70) (pts := [(4, 9, [.int .i64 true 8])]) (args := argsAP p0 p1 p2) rfl (Nat.le_of_ble_eq_true rfl)
    (fun o => ⟨[false,false,false,true,true,false,false,false,false,true,false,false,false], _, _, ev_w8bey o p0 p1 p2, (h o).1, ⟨_, _, rfl, (h o).2⟩⟩) ρ w
theorem way_w8alarm (p0 : BitVec 64) (p1 : BitVec 8) (p2 : BitVec 64) (h : ∀ o, (nd_w8alarm o p0 p1 p2).ok) : GoalAP p0 p1 p2 := fun ρ w =>
  way_ok (E := E_sallyportlaw17_AccessPlain) envAP mixed (g := 3) (fn := Try.f3) (c := Try.f3.body.getD .skip) (by kernel_rfl) (by kernel_rfl) (fl := 70) (pts := [(4, 9, [.int .i64 true 8])]) (args := argsAP p0 p1 p2) rfl (Nat.le_of_ble_eq_true rfl)
    (fun o => ⟨[false,false,true,false,false,false,true,false,false,true], _, _, ev_w8alarm o p0 p1 p2, h o, ⟨_, _, rfl, rfl⟩⟩) ρ w
theorem way_w8time (p0 : BitVec 64) (p1 : BitVec 8) (p2 : BitVec 64) (h : ∀ o, (nd_w8time o p0 p1 p2).ok ∧ m_w8time_0 p0 p1 p2 = true) : GoalAP p0 p1 p2 := fun ρ w =>
  way_ok (E := E_sallyportlaw17_AccessPlain) envAP mixed (g := 3) (fn := Try.f3) (c := Try.f3.body.getD .skip) (by kernel_rfl) (by kernel_rfl) (fl := 70) (pts := [(4, 9, [.int .i64 true 8])]) (args := argsAP p0 p1 p2) rfl (Nat.le_of_ble_eq_true rfl)
    (fun o => ⟨[false,false,false,true,true,false,false,true,false,false,true], _, _, ev_w8time o p0 p1 p2, (h o).1, ⟨_, _, rfl, (h o).2⟩⟩) ρ w
theorem way_w1mem (p0 : BitVec 64) (p1 : BitVec 8) (p2 : BitVec 64) (h : ∀ o, (nd_w1mem o p0 p1 p2).ok ∧ m_w1mem_0 p0 p1 p2 = true) : GoalAP p0 p1 p2 := fun ρ w =>
  way_ok (E := E_sallyportlaw17_AccessPlain) envAP mixed (g := 3) (fn := Try.f3) (c := Try.f3.body.getD .skip) (by kernel_rfl) (by kernel_rfl) (fl := 70) (pts := [(4, 9, [.int .i64 true 1])]) (args := argsAP p0 p1 p2) rfl (Nat.le_of_ble_eq_true rfl)
    (fun o => ⟨[false,false,false,true,false,false,false,false,false,true,false,false,true], _, _, ev_w1mem o p0 p1 p2, (h o).1, ⟨_, _, rfl, (h o).2⟩⟩) ρ w
theorem way_w1dev (p0 : BitVec 64) (p1 : BitVec 8) (p2 : BitVec 64) (h : ∀ o, (nd_w1dev o p0 p1 p2).ok ∧ m_w1dev_0 p0 p1 p2 = true) : GoalAP p0 p1 p2 := fun ρ w =>
  way_ok (E := E_sallyportlaw17_AccessPlain) envAP mixed (g := 3) (fn := Try.f3) (c := Try.f3.body.getD .skip) (by kernel_rfl) (by kernel_rfl) (fl := 70) (pts := [(4, 9, [.int .i64 true 1])]) (args := argsAP p0 p1 p2) rfl (Nat.le_of_ble_eq_true rfl)
    (fun o => ⟨[false,false,false,true,true,true,false,false,false,false,true,true,false,false,true], _, _, ev_w1dev o p0 p1 p2, (h o).1, ⟨_, _, rfl, (h o).2⟩⟩) ρ w
theorem way_w1bey (p0 : BitVec 64) (p1 : BitVec 8) (p2 : BitVec 64) (h : ∀ o, (nd_w1bey o p0 p1 p2).ok ∧ m_w1bey_0 p0 p1 p2 = true) : GoalAP p0 p1 p2 := fun ρ w =>
  way_ok (E := E_sallyportlaw17_AccessPlain) envAP mixed (g := 3) (fn := Try.f3) (c := Try.f3.body.getD .skip) (by kernel_rfl) (by kernel_rfl) (fl := 70) (pts := [(4, 9, [.int .i64 true 1])]) (args := argsAP p0 p1 p2) rfl (Nat.le_of_ble_eq_true rfl)
    (fun o => ⟨[false,false,false,true,true,true,false,false,false,false,true,true,false,false,false], _, _, ev_w1bey o p0 p1 p2, (h o).1, ⟨_, _, rfl, (h o).2⟩⟩) ρ w
theorem way_w1pbey (p0 : BitVec 64) (p1 : BitVec 8) (p2 : BitVec 64) (h : ∀ o, (nd_w1pbey o p0 p1 p2).ok ∧ m_w1pbey_0 p0 p1 p2 = true) : GoalAP p0 p1 p2 := fun ρ w =>
  way_ok (E := E_sallyportlaw17_AccessPlain) envAP mixed (g := 3) (fn := Try.f3) (c := Try.f3.body.getD .skip) (by kernel_rfl) (by kernel_rfl) (fl := 70) (pts := [(4, 9, [.int .i64 true 1])]) (args := argsAP p0 p1 p2) rfl (Nat.le_of_ble_eq_true rfl)
    (fun o => ⟨[false,false,false,false,false,false,false,false,false,false,true,true,false,false,false,false,false,false,false,false,false,false,false,true,false,false,false], _, _, ev_w1pbey o p0 p1 p2, (h o).1, ⟨_, _, rfl, (h o).2⟩⟩) ρ w
theorem way_w1con0 (p0 : BitVec 64) (p1 : BitVec 8) (p2 : BitVec 64) (h : ∀ o, (nd_w1con0 o p0 p1 p2).ok) : GoalAP p0 p1 p2 := fun ρ w =>
  way_ok (E := E_sallyportlaw17_AccessPlain) envAP mixed (g := 3) (fn := Try.f3) (c := Try.f3.body.getD .skip) (by kernel_rfl) (by kernel_rfl) (fl := 70) (pts := [(4, 9, [.int .i64 true 1])]) (args := argsAP p0 p1 p2) rfl (Nat.le_of_ble_eq_true rfl)
    (fun o => ⟨[false,false,false,false,false,false,false,false,false,true,false,false,false,false,false,false,false,false,false,false,true,false,false,true], _, _, ev_w1con0 o p0 p1 p2, h o, ⟨_, _, rfl, rfl⟩⟩) ρ w
theorem way_w1con1 (p0 : BitVec 64) (p1 : BitVec 8) (p2 : BitVec 64) (h : ∀ o, (nd_w1con1 o p0 p1 p2).ok) : GoalAP p0 p1 p2 := fun ρ w =>
  way_ok (E := E_sallyportlaw17_AccessPlain) envAP mixed (g := 3) (fn := Try.f3) (c := Try.f3.body.getD .skip) (by kernel_rfl) (by kernel_rfl) (fl := 70) (pts := [(4, 9, [.int .i64 true 1])]) (args := argsAP p0 p1 p2) rfl (Nat.le_of_ble_eq_true rfl)
    (fun o => ⟨[false,false,false,false,false,false,false,false,true,false,false,false,false,false,false,false,false,false,true,false,false,true], _, _, ev_w1con1 o p0 p1 p2, h o, ⟨_, _, rfl, rfl⟩⟩) ρ w
theorem way_w1con2 (p0 : BitVec 64) (p1 : BitVec 8) (p2 : BitVec 64) (h : ∀ o, (nd_w1con2 o p0 p1 p2).ok) : GoalAP p0 p1 p2 := fun ρ w =>
  way_ok (E := E_sallyportlaw17_AccessPlain) envAP mixed (g := 3) (fn := Try.f3) (c := Try.f3.body.getD .skip) (by kernel_rfl) (by kernel_rfl) (fl := 70) (pts := [(4, 9, [.int .i64 true 1])]) (args := argsAP p0 p1 p2) rfl (Nat.le_of_ble_eq_true rfl)
    (fun o => ⟨[false,false,false,false,false,false,false,true,false,false,false,false,false,false,false,false,true,false,false,true], _, _, ev_w1con2 o p0 p1 p2, h o, ⟨_, _, rfl, rfl⟩⟩) ρ w
theorem way_w1con3 (p0 : BitVec 64) (p1 : BitVec 8) (p2 : BitVec 64) (h : ∀ o, (nd_w1con3 o p0 p1 p2).ok) : GoalAP p0 p1 p2 := fun ρ w =>
  way_ok (E := E_sallyportlaw17_AccessPlain) envAP mixed (g := 3) (fn := Try.f3) (c := Try.f3.body.getD .skip) (by kernel_rfl) (by kernel_rfl) (fl := 70) (pts := [(4, 9, [.int .i64 true 1])]) (args := argsAP p0 p1 p2) rfl (Nat.le_of_ble_eq_true rfl)
    (fun o => ⟨[false,false,false,false,false,false,true,false,false,false,false,false,false,false,true,false,false,true], _, _, ev_w1con3 o p0 p1 p2, h o, ⟨_, _, rfl, rfl⟩⟩) ρ w
theorem way_w1con4 (p0 : BitVec 64) (p1 : BitVec 8) (p2 : BitVec 64) (h : ∀ o, (nd_w1con4 o p0 p1 p2).ok ∧ m_w1con4_0 p0 p1 p2 = true) : GoalAP p0 p1 p2 := fun ρ w =>
  way_ok (E := E_sallyportlaw17_AccessPlain) envAP mixed (g := 3) (fn := Try.f3) (c := Try.f3.body.getD .skip) (by kernel_rfl) (by kernel_rfl) (fl := 70) (pts := [(4, 9, [.int .i64 true 1])]) (args := argsAP p0 p1 p2) rfl (Nat.le_of_ble_eq_true rfl)
    (fun o => ⟨[false,false,false,false,false,true,true,true,false,false,false,false,false,false,true,true,false,false,false], _, _, ev_w1con4 o p0 p1 p2, (h o).1, ⟨_, _, rfl, (h o).2⟩⟩) ρ w
theorem way_w1con5 (p0 : BitVec 64) (p1 : BitVec 8) (p2 : BitVec 64) (h : ∀ o, (nd_w1con5 o p0 p1 p2).ok ∧ m_w1con5_0 p0 p1 p2 = true) : GoalAP p0 p1 p2 := fun ρ w =>
  way_ok (E := E_sallyportlaw17_AccessPlain) envAP mixed (g := 3) (fn := Try.f3) (c := Try.f3.body.getD .skip) (by kernel_rfl) (by kernel_rfl) (fl := 70) (pts := [(4, 9, [.int .i64 true 1])]) (args := argsAP p0 p1 p2) rfl (Nat.le_of_ble_eq_true rfl)
    (fun o => ⟨[false,false,false,false,true,true,true,false,false,false,false,false,true,true,false,false,false], _, _, ev_w1con5 o p0 p1 p2, (h o).1, ⟨_, _, rfl, (h o).2⟩⟩) ρ w
theorem law_AP (p0 : BitVec 64) (p1 : BitVec 8) (p2 : BitVec 64) : GoalAP p0 p1 p2 := by
  rcases kkAny p1 with h | h | h | h
  · have hn := kk0 h
    by_cases hl : p0.toNat < 32768
    · obtain ⟨a1, a2, a3, a4, a5⟩ := ltU p0 hl
      exact way_w1mem p0 p1 p2 fun o => ok_w1mem o p0 p1 p2 hn a5 a1 a2 a3 a4 (by omega)
    · obtain ⟨a1, a2⟩ := geU p0 hl
      have fin : (p0.ult 61696#64 = true) ∨ ¬ (p0 - 61696#64) % 256#64 = 0#64 → GoalAP p0 p1 p2 := by
        intro hC
        by_cases hd : (61440#64).ule p0 = true ∧ p0.ult 62720#64 = true
        · exact way_w1dev p0 p1 p2 fun o => ok_w1dev o p0 p1 p2 hn a1 a2 hC hd.1 hd.2
        · exact way_w1bey p0 p1 p2 fun o => ok_w1bey o p0 p1 p2 hn a1 a2 hC hd
      cases hC : p0.ult 61696#64 with
      | true => exact fin (.inl hC)
      | false =>
        by_cases hM : (p0 - 61696#64) % 256#64 = 0#64
        · rcases portK p0 hC hM with e | e | e | e | e | e | ⟨b0, b1, b2, b3, b4, b5, b6, b7, b8, b9⟩
          · exact way_w1con0 p0 p1 p2 fun o => ok_w1con0 o p0 p1 p2 hn e
          · exact way_w1con1 p0 p1 p2 fun o => ok_w1con1 o p0 p1 p2 hn e
          · exact way_w1con2 p0 p1 p2 fun o => ok_w1con2 o p0 p1 p2 hn e
          · exact way_w1con3 p0 p1 p2 fun o => ok_w1con3 o p0 p1 p2 hn e
          · exact way_w1con4 p0 p1 p2 fun o => ok_w1con4 o p0 p1 p2 hn e
          · exact way_w1con5 p0 p1 p2 fun o => ok_w1con5 o p0 p1 p2 hn e
          · exact way_w1pbey p0 p1 p2 fun o => ok_w1pbey o p0 p1 p2 hn a1 a2 hC hM b0 b1 b2 b3 b4 b5 b6 b7 b8 b9
        · exact fin (.inr hM)
  · have hn := kk1 h
    by_cases hA : p0 % 2#64 = 0#64
    · by_cases hl : p0.toNat < 32768
      · obtain ⟨a1, a2, a3, a4, a5⟩ := ltU p0 hl
        exact way_w2mem p0 p1 p2 fun o => ok_w2mem o p0 p1 p2 hn hA a1 a2 a3 a4 (room p0 2 (by simp) hA hl)
      · obtain ⟨a1, a2⟩ := geU p0 hl
        by_cases hd : (61440#64).ule p0 = true ∧ p0.ult 62720#64 = true
        · exact way_w2dev p0 p1 p2 fun o => ok_w2dev o p0 p1 p2 hn hA a1 a2 hd.1 hd.2
        · exact way_w2bey p0 p1 p2 fun o => ok_w2bey o p0 p1 p2 hn hA a1 a2 hd
    · exact way_w2mis p0 p1 p2 fun o => ok_w2mis o p0 p1 p2 hn hA
  · have hn := kk2 h
    by_cases hA : p0 % 4#64 = 0#64
    · by_cases hl : p0.toNat < 32768
      · obtain ⟨a1, a2, a3, a4, a5⟩ := ltU p0 hl
        exact way_w4mem p0 p1 p2 fun o => ok_w4mem o p0 p1 p2 hn hA a1 a2 a3 a4 (room p0 4 (by simp) hA hl)
      · obtain ⟨a1, a2⟩ := geU p0 hl
        by_cases hd : (61440#64).ule p0 = true ∧ p0.ult 62720#64 = true
        · exact way_w4dev p0 p1 p2 fun o => ok_w4dev o p0 p1 p2 hn hA a1 a2 hd.1 hd.2
        · exact way_w4bey p0 p1 p2 fun o => ok_w4bey o p0 p1 p2 hn hA a1 a2 hd
    · exact way_w4mis p0 p1 p2 fun o => ok_w4mis o p0 p1 p2 hn hA
  · have hn := kk3 h
    by_cases hA : p0 % 8#64 = 0#64
    · by_cases hl : p0.toNat < 32768
      · obtain ⟨a1, a2, a3, a4, a5⟩ := ltU p0 hl
        exact way_w8mem p0 p1 p2 fun o => ok_w8mem o p0 p1 p2 hn hA a1 a2 a3 a4 (room p0 8 (by simp) hA hl)
      · obtain ⟨a1, a2⟩ := geU p0 hl
        by_cases hT : p0 = 61448#64
        · exact way_w8alarm p0 p1 p2 fun o => ok_w8alarm o p0 p1 p2 hn hT
        by_cases hS : p0 = 61440#64
        · exact way_w8time p0 p1 p2 fun o => ok_w8time o p0 p1 p2 hn hS
        by_cases hd : (61440#64).ule p0 = true ∧ p0.ult 62720#64 = true
        · exact way_w8dev p0 p1 p2 fun o => ok_w8dev o p0 p1 p2 hn hA a1 a2 hT hS hd.1 hd.2
        · exact way_w8bey p0 p1 p2 fun o => ok_w8bey o p0 p1 p2 hn hA a1 a2 hT hS hd
    · exact way_w8mis p0 p1 p2 fun o => ok_w8mis o p0 p1 p2 hn hA
end Go.X.M
