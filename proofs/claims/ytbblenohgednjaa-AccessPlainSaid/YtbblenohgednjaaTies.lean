import Derived.Test.YtbblenohgednjaaProg
import Derived.KernelRfl
import Derived.Test.YtbblenohgednjaaMods
import Derived.Test.YtbblenohgednjaaInls
/- Each function of this program does what its model says, under the needs that the model names. -/
set_option maxRecDepth 100000
set_option linter.unusedVariables false
namespace Go.X.M
open Go Go.X Go.Proofs
theorem mixed : Try.prog.follows .mixedOrders = true := by kernel_rfl
theorem eval_sallyportref1_Zext (p0 : BitVec 64) (p1 : Int) : collapse (fnT (envOf Try.prog 999999 [] []) Try.f7 (Try.f7.body.getD .skip) noBlocks 70 [.sc (.u64 false p0), .sc (.int .i64 false p1)] (fun _ => none) 0) = some (nd_sallyportref1_Zext p0 p1, SV.ev (V.sc (SC.u64 false (m_sallyportref1_Zext_0 p0 p1)))) := by kernel_rfl
theorem tie_sallyportref1_Zext : ModelOk Try.prog 7 (pureM F_sallyportref1_Zext) :=
  pure_ok (E := envOf Try.prog 999999 [] []) (envOf_ok trivial trivial) mixed (g := 7) (fn := Try.f7) (c := Try.f7.body.getD .skip) (by kernel_rfl) (by kernel_rfl) (by kernel_rfl) (Lp := noBlocks) (fl := 70) (fun _ => allBlocks_no _) (by
    intro args ns sv h
    unfold F_sallyportref1_Zext at h
    split at h
    · simp only [Option.some.injEq, Prod.mk.injEq] at h
      obtain ⟨rfl, rfl⟩ := h
      rename_i s0 p0 s1 p1
      refine ⟨_, _, _, ?_, ?_, ?_, ?_, eval_sallyportref1_Zext p0 p1, fun hp => ⟨trivial, sub_erase rfl⟩⟩
      · intro ρ; rfl
      · exact Nat.le_of_ble_eq_true rfl
      · rfl
      · rfl
    · cases h)
theorem eval_insn_Class (p0 : Int) : collapse (fnT (envOf Try.prog 999999 [] []) Try.f16 (Try.f16.body.getD .skip) noBlocks 70 [.sc (.int .i64 false p0)] (fun _ => none) 0) = some (nd_insn_Class p0, SV.ev (V.sc (SC.int IntKind.i64 false (m_insn_Class_0 p0)))) := by kernel_rfl
theorem tie_insn_Class : ModelOk Try.prog 16 (pureM F_insn_Class) :=
  pure_ok (E := envOf Try.prog 999999 [] []) (envOf_ok trivial trivial) mixed (g := 16) (fn := Try.f16) (c := Try.f16.body.getD .skip) (by kernel_rfl) (by kernel_rfl) (by kernel_rfl) (Lp := noBlocks) (fl := 70) (fun _ => allBlocks_no _) (by
    intro args ns sv h
    unfold F_insn_Class at h
    split at h
    · simp only [Option.some.injEq, Prod.mk.injEq] at h
      obtain ⟨rfl, rfl⟩ := h
      rename_i s0 p0
      refine ⟨_, _, _, ?_, ?_, ?_, ?_, eval_insn_Class p0, fun hp => ⟨ok_insn_Class p0, sub_erase rfl⟩⟩
      · intro ρ; rfl
      · exact Nat.le_of_ble_eq_true rfl
      · rfl
      · rfl
    · cases h)
theorem eval_insn_Size (p0 : Int) : collapse (fnT (envOf Try.prog 999999 [] []) Try.f20 (Try.f20.body.getD .skip) noBlocks 70 [.sc (.int .i64 false p0)] (fun _ => none) 0) = some (nd_insn_Size p0, SV.ev (V.sc (SC.int IntKind.i64 false (m_insn_Size_0 p0)))) := by kernel_rfl
theorem tie_insn_Size : ModelOk Try.prog 20 (pureM F_insn_Size) :=
  pure_ok (E := envOf Try.prog 999999 [] []) (envOf_ok trivial trivial) mixed (g := 20) (fn := Try.f20) (c := Try.f20.body.getD .skip) (by kernel_rfl) (by kernel_rfl) (by kernel_rfl) (Lp := noBlocks) (fl := 70) (fun _ => allBlocks_no _) (by
    intro args ns sv h
    unfold F_insn_Size at h
    split at h
    · simp only [Option.some.injEq, Prod.mk.injEq] at h
      obtain ⟨rfl, rfl⟩ := h
      rename_i s0 p0
      refine ⟨_, _, _, ?_, ?_, ?_, ?_, eval_insn_Size p0, fun hp => ⟨trivial, sub_erase rfl⟩⟩
      · intro ρ; rfl
      · exact Nat.le_of_ble_eq_true rfl
      · rfl
      · rfl
    · cases h)
theorem eval_access_cause (p0 : Int) (p1 : Nat → BitVec 64) : collapse (fnT (envOf Try.prog 999999 [] []) Try.f23 (Try.f23.body.getD .skip) noBlocks 70 [.sc (.int .i64 false p0), .agg [.u64s false 3 p1]] (fun _ => none) 0) = some (nd_access_cause p0 p1, SV.ev (V.sc (SC.u64 false (m_access_cause_0 p0 p1)))) := by kernel_rfl
theorem tie_access_cause : ModelOk Try.prog 23 (pureM F_access_cause) :=
  pure_ok (E := envOf Try.prog 999999 [] []) (envOf_ok trivial trivial) mixed (g := 23) (fn := Try.f23) (c := Try.f23.body.getD .skip) (by kernel_rfl) (by kernel_rfl) (by kernel_rfl) (Lp := noBlocks) (fl := 70) (fun _ => allBlocks_no _) (by
    intro args ns sv h
    unfold F_access_cause at h
    split at h
    · simp only [Option.some.injEq, Prod.mk.injEq] at h
      obtain ⟨rfl, rfl⟩ := h
      rename_i s0 p0 s1 p1
      refine ⟨_, _, _, ?_, ?_, ?_, ?_, eval_access_cause p0 p1, fun hp => ⟨ok_access_cause p0 p1, sub_erase rfl⟩⟩
      · intro ρ; rfl
      · exact Nat.le_of_ble_eq_true rfl
      · rfl
      · rfl
    · cases h)
theorem eval_insn_field (p0 : Bool) (p1 : Int) (p2 : Int) : collapse (fnT (envOf Try.prog 999999 [] []) Try.f33 (Try.f33.body.getD .skip) noBlocks 70 [.sc (.bool false p0), .sc (.int .i64 false p1), .sc (.int .i64 false p2)] (fun _ => none) 0) = some (nd_insn_field p0 p1 p2, SV.ev (V.sc (SC.bool false (m_insn_field_0 p0 p1 p2)))) := by kernel_rfl
theorem tie_insn_field : ModelOk Try.prog 33 (pureM F_insn_field) :=
  pure_ok (E := envOf Try.prog 999999 [] []) (envOf_ok trivial trivial) mixed (g := 33) (fn := Try.f33) (c := Try.f33.body.getD .skip) (by kernel_rfl) (by kernel_rfl) (by kernel_rfl) (Lp := noBlocks) (fl := 70) (fun _ => allBlocks_no _) (by
    intro args ns sv h
    unfold F_insn_field at h
    split at h
    · simp only [Option.some.injEq, Prod.mk.injEq] at h
      obtain ⟨rfl, rfl⟩ := h
      rename_i s0 p0 s1 p1 s2 p2
      refine ⟨_, _, _, ?_, ?_, ?_, ?_, eval_insn_field p0 p1 p2, fun hp => ⟨ok_insn_field p0 p1 p2, sub_erase rfl⟩⟩
      · intro ρ; rfl
      · exact Nat.le_of_ble_eq_true rfl
      · rfl
      · rfl
    · cases h)
theorem eval_access_sort (p0 : BitVec 64) : collapse (fnT (envOf Try.prog 999999 [] []) Try.f35 (Try.f35.body.getD .skip) noBlocks 70 [.sc (.u64 false p0)] (fun _ => none) 0) = some (nd_access_sort p0, SV.ev (V.sc (SC.int IntKind.i64 false (m_access_sort_0 p0)))) := by kernel_rfl
theorem tie_access_sort : ModelOk Try.prog 35 (pureM F_access_sort) :=
  pure_ok (E := envOf Try.prog 999999 [] []) (envOf_ok trivial trivial) mixed (g := 35) (fn := Try.f35) (c := Try.f35.body.getD .skip) (by kernel_rfl) (by kernel_rfl) (by kernel_rfl) (Lp := noBlocks) (fl := 70) (fun _ => allBlocks_no _) (by
    intro args ns sv h
    unfold F_access_sort at h
    split at h
    · simp only [Option.some.injEq, Prod.mk.injEq] at h
      obtain ⟨rfl, rfl⟩ := h
      rename_i s0 p0
      refine ⟨_, _, _, ?_, ?_, ?_, ?_, eval_access_sort p0, fun hp => ⟨trivial, sub_erase rfl⟩⟩
      · intro ρ; rfl
      · exact Nat.le_of_ble_eq_true rfl
      · rfl
      · rfl
    · cases h)
theorem eval_word_Sext (p0 : BitVec 64) (p1 : Int) : collapse (fnT (envOf Try.prog 999999 [] []) Try.f37 (Try.f37.body.getD .skip) noBlocks 70 [.sc (.u64 false p0), .sc (.int .i64 false p1)] (fun _ => none) 0) = some (nd_word_Sext p0 p1, SV.ev (V.sc (SC.u64 false (m_word_Sext_0 p0 p1)))) := by kernel_rfl
theorem tie_word_Sext : ModelOk Try.prog 37 (pureM F_word_Sext) :=
  pure_ok (E := envOf Try.prog 999999 [] []) (envOf_ok trivial trivial) mixed (g := 37) (fn := Try.f37) (c := Try.f37.body.getD .skip) (by kernel_rfl) (by kernel_rfl) (by kernel_rfl) (Lp := noBlocks) (fl := 70) (fun _ => allBlocks_no _) (by
    intro args ns sv h
    unfold F_word_Sext at h
    split at h
    · simp only [Option.some.injEq, Prod.mk.injEq] at h
      obtain ⟨rfl, rfl⟩ := h
      rename_i s0 p0 s1 p1
      refine ⟨_, _, _, ?_, ?_, ?_, ?_, eval_word_Sext p0 p1, fun hp => ⟨hp _ List.mem_cons_self, sub_erase rfl⟩⟩
      · intro ρ; rfl
      · exact Nat.le_of_ble_eq_true rfl
      · rfl
      · rfl
    · cases h)
theorem eval_two_faults_fault (p0 : BitVec 64) (p1 : Int) (p2 : Bool) (p3 : BitVec 64) (p4 : Nat → BitVec 64) : collapse (fnT (envOf Try.prog 999999 [] []) Try.f39 (Try.f39.body.getD .skip) noBlocks 70 [.agg [.one (.u64 false p0), .one (.int .i64 false p1), .one (.bool false p2)], .sc (.u64 false p3), .agg [.u64s false 3 p4]] (fun _ => none) 0) = some (nd_two_faults_fault p0 p1 p2 p3 p4, SV.ev
  (V.agg
    [Seg.one (SC.u64 false (m_two_faults_fault_0 p0 p1 p2 p3 p4)), Seg.one (SC.u64 false p0),
      Seg.one (SC.u64 false (m_two_faults_fault_1 p0 p1 p2 p3 p4)), Seg.one (SC.bool false p2)])) := by kernel_rfl
theorem tie_two_faults_fault : ModelOk Try.prog 39 (pureM F_two_faults_fault) :=
  pure_ok (E := envOf Try.prog 999999 [] []) (envOf_ok trivial trivial) mixed (g := 39) (fn := Try.f39) (c := Try.f39.body.getD .skip) (by kernel_rfl) (by kernel_rfl) (by kernel_rfl) (Lp := noBlocks) (fl := 70) (fun _ => allBlocks_no _) (by
    intro args ns sv h
    unfold F_two_faults_fault at h
    split at h
    · simp only [Option.some.injEq, Prod.mk.injEq] at h
      obtain ⟨rfl, rfl⟩ := h
      rename_i s0 p0 s1 p1 s2 p2 s3 p3 s4 p4
      refine ⟨_, _, _, ?_, ?_, ?_, ?_, eval_two_faults_fault p0 p1 p2 p3 p4, fun hp => ⟨ok_two_faults_fault p0 p1 p2 p3 p4, sub_erase rfl⟩⟩
      · intro ρ; rfl
      · exact Nat.le_of_ble_eq_true rfl
      · rfl
      · rfl
    · cases h)
theorem eval_insn_jumps (p0 : Int) : collapse (fnT (envOf Try.prog 999999 [] []) Try.f51 (Try.f51.body.getD .skip) noBlocks 70 [.sc (.int .i64 false p0)] (fun _ => none) 0) = some (nd_insn_jumps p0, SV.ev
  (V.agg
    [Seg.one (SC.bool false (m_insn_jumps_0 p0)), Seg.one (SC.bool false (m_insn_jumps_1 p0)),
      Seg.one (SC.bool false (m_insn_jumps_2 p0)), Seg.one (SC.bool false (m_insn_jumps_3 p0)),
      Seg.one (SC.int IntKind.i64 false (m_insn_jumps_4 p0)), Seg.one (SC.int IntKind.i64 false (m_insn_jumps_5 p0)),
      Seg.one (SC.int IntKind.i64 false (m_insn_jumps_6 p0))])) := by kernel_rfl
theorem tie_insn_jumps : ModelOk Try.prog 51 (pureM F_insn_jumps) :=
  pure_ok (E := envOf Try.prog 999999 [] []) (envOf_ok trivial trivial) mixed (g := 51) (fn := Try.f51) (c := Try.f51.body.getD .skip) (by kernel_rfl) (by kernel_rfl) (by kernel_rfl) (Lp := noBlocks) (fl := 70) (fun _ => allBlocks_no _) (by
    intro args ns sv h
    unfold F_insn_jumps at h
    split at h
    · simp only [Option.some.injEq, Prod.mk.injEq] at h
      obtain ⟨rfl, rfl⟩ := h
      rename_i s0 p0
      refine ⟨_, _, _, ?_, ?_, ?_, ?_, eval_insn_jumps p0, fun hp => ⟨trivial, sub_erase rfl⟩⟩
      · intro ρ; rfl
      · exact Nat.le_of_ble_eq_true rfl
      · rfl
      · rfl
    · cases h)
theorem eval_insn_withNumber (p0 : Int) : collapse (fnT (envOf Try.prog 999999 [] []) Try.f52 (Try.f52.body.getD .skip) noBlocks 70 [.sc (.int .i64 false p0)] (fun _ => none) 0) = some (nd_insn_withNumber p0, SV.ev
  (V.agg
    [Seg.one (SC.bool false (m_insn_withNumber_0 p0)), Seg.one (SC.bool false (m_insn_withNumber_1 p0)),
      Seg.one (SC.bool false (m_insn_withNumber_2 p0)), Seg.one (SC.bool false (m_insn_withNumber_3 p0)),
      Seg.one (SC.int IntKind.i64 false (m_insn_withNumber_4 p0)),
      Seg.one (SC.int IntKind.i64 false (m_insn_withNumber_5 p0)),
      Seg.one (SC.int IntKind.i64 false (m_insn_withNumber_6 p0))])) := by kernel_rfl
theorem tie_insn_withNumber : ModelOk Try.prog 52 (pureM F_insn_withNumber) :=
  pure_ok (E := envOf Try.prog 999999 [] []) (envOf_ok trivial trivial) mixed (g := 52) (fn := Try.f52) (c := Try.f52.body.getD .skip) (by kernel_rfl) (by kernel_rfl) (by kernel_rfl) (Lp := noBlocks) (fl := 70) (fun _ => allBlocks_no _) (by
    intro args ns sv h
    unfold F_insn_withNumber at h
    split at h
    · simp only [Option.some.injEq, Prod.mk.injEq] at h
      obtain ⟨rfl, rfl⟩ := h
      rename_i s0 p0
      refine ⟨_, _, _, ?_, ?_, ?_, ?_, eval_insn_withNumber p0, fun hp => ⟨trivial, sub_erase rfl⟩⟩
      · intro ρ; rfl
      · exact Nat.le_of_ble_eq_true rfl
      · rfl
      · rfl
    · cases h)
theorem eval_word_part (p0 : Int) (p1 : Int) : collapse (fnT (envOf Try.prog 999999 [] []) Try.f53 (Try.f53.body.getD .skip) noBlocks 70 [.sc (.int .i64 false p0), .sc (.int .i64 false p1)] (fun _ => none) 0) = some (nd_word_part p0 p1, SV.tup [V.sc (SC.int IntKind.i64 false (m_word_part_0 p0 p1)), V.sc (SC.int IntKind.i64 false (m_word_part_1 p0 p1))]) := by kernel_rfl
theorem tie_word_part : ModelOk Try.prog 53 (pureM F_word_part) :=
  pure_ok (E := envOf Try.prog 999999 [] []) (envOf_ok trivial trivial) mixed (g := 53) (fn := Try.f53) (c := Try.f53.body.getD .skip) (by kernel_rfl) (by kernel_rfl) (by kernel_rfl) (Lp := noBlocks) (fl := 70) (fun _ => allBlocks_no _) (by
    intro args ns sv h
    unfold F_word_part at h
    split at h
    · simp only [Option.some.injEq, Prod.mk.injEq] at h
      obtain ⟨rfl, rfl⟩ := h
      rename_i s0 p0 s1 p1
      refine ⟨_, _, _, ?_, ?_, ?_, ?_, eval_word_part p0 p1, fun hp => ⟨trivial, sub_erase rfl⟩⟩
      · intro ρ; rfl
      · exact Nat.le_of_ble_eq_true rfl
      · rfl
      · rfl
    · cases h)
theorem eval_word_mask (p0 : Int) : collapse (fnT (envOf Try.prog 999999 [] []) Try.f54 (Try.f54.body.getD .skip) noBlocks 70 [.sc (.int .i64 false p0)] (fun _ => none) 0) = some (nd_word_mask p0, SV.ev (V.sc (SC.u64 false (m_word_mask_0 p0)))) := by kernel_rfl
theorem tie_word_mask : ModelOk Try.prog 54 (pureM F_word_mask) :=
  pure_ok (E := envOf Try.prog 999999 [] []) (envOf_ok trivial trivial) mixed (g := 54) (fn := Try.f54) (c := Try.f54.body.getD .skip) (by kernel_rfl) (by kernel_rfl) (by kernel_rfl) (Lp := noBlocks) (fl := 70) (fun _ => allBlocks_no _) (by
    intro args ns sv h
    unfold F_word_mask at h
    split at h
    · simp only [Option.some.injEq, Prod.mk.injEq] at h
      obtain ⟨rfl, rfl⟩ := h
      rename_i s0 p0
      refine ⟨_, _, _, ?_, ?_, ?_, ?_, eval_word_mask p0, fun hp => ⟨hp _ List.mem_cons_self, sub_erase rfl⟩⟩
      · intro ρ; rfl
      · exact Nat.le_of_ble_eq_true rfl
      · rfl
      · rfl
    · cases h)
theorem eval_pte_Is (p0 : BitVec 64) : collapse (fnT (envOf Try.prog 999999 [] []) Try.f55 (Try.f55.body.getD .skip) noBlocks 70 [.sc (.u64 false p0)] (fun _ => none) 0) = some (nd_pte_Is p0, SV.ev (V.sc (SC.bool false (m_pte_Is_0 p0)))) := by kernel_rfl
theorem tie_pte_Is : ModelOk Try.prog 55 (pureM F_pte_Is) :=
  pure_ok (E := envOf Try.prog 999999 [] []) (envOf_ok trivial trivial) mixed (g := 55) (fn := Try.f55) (c := Try.f55.body.getD .skip) (by kernel_rfl) (by kernel_rfl) (by kernel_rfl) (Lp := noBlocks) (fl := 70) (fun _ => allBlocks_no _) (by
    intro args ns sv h
    unfold F_pte_Is at h
    split at h
    · simp only [Option.some.injEq, Prod.mk.injEq] at h
      obtain ⟨rfl, rfl⟩ := h
      rename_i s0 p0
      refine ⟨_, _, _, ?_, ?_, ?_, ?_, eval_pte_Is p0, fun hp => ⟨ok_pte_Is p0, sub_erase rfl⟩⟩
      · intro ρ; rfl
      · exact Nat.le_of_ble_eq_true rfl
      · rfl
      · rfl
    · cases h)
theorem eval_mem_check (p0 : BitVec 64) (p1 : Int) : collapse (fnT (envOf Try.prog 999999 [] []) Try.f62 (Try.f62.body.getD .skip) noBlocks 70 [.sc (.u64 false p0), .sc (.int .i64 false p1)] (fun _ => none) 0) = some (nd_mem_check p0 p1, SV.ev (V.sc (SC.int IntKind.i64 false (m_mem_check_0 p0 p1)))) := by kernel_rfl
theorem tie_mem_check : ModelOk Try.prog 62 (pureM F_mem_check) :=
  pure_ok (E := envOf Try.prog 999999 [] []) (envOf_ok trivial trivial) mixed (g := 62) (fn := Try.f62) (c := Try.f62.body.getD .skip) (by kernel_rfl) (by kernel_rfl) (by kernel_rfl) (Lp := noBlocks) (fl := 70) (fun _ => allBlocks_no _) (by
    intro args ns sv h
    unfold F_mem_check at h
    split at h
    · simp only [Option.some.injEq, Prod.mk.injEq] at h
      obtain ⟨rfl, rfl⟩ := h
      rename_i s0 p0 s1 p1
      refine ⟨_, _, _, ?_, ?_, ?_, ?_, eval_mem_check p0 p1, fun hp => ⟨ok_mem_check p0 p1, sub_erase rfl⟩⟩
      · intro ρ; rfl
      · exact Nat.le_of_ble_eq_true rfl
      · rfl
      · rfl
    · cases h)
theorem eval_word_Bytes (p0 : BitVec 64) (p1 : Int) : collapse (fnT (envOf Try.prog 999999 [] []) Try.f63 (Try.f63.body.getD .skip) noBlocks 70 [.sc (.u64 false p0), .sc (.int .i64 false p1)] (fun _ => none) 0) = some (nd_word_Bytes p0 p1, SV.ev (V.sc (SC.str false (m_word_Bytes_0 p0 p1)))) := by kernel_rfl
theorem tie_word_Bytes : ModelOk Try.prog 63 (pureM F_word_Bytes) :=
  pure_ok (E := envOf Try.prog 999999 [] []) (envOf_ok trivial trivial) mixed (g := 63) (fn := Try.f63) (c := Try.f63.body.getD .skip) (by kernel_rfl) (by kernel_rfl) (by kernel_rfl) (Lp := noBlocks) (fl := 70) (fun _ => allBlocks_no _) (by
    intro args ns sv h
    unfold F_word_Bytes at h
    split at h
    · simp only [Option.some.injEq, Prod.mk.injEq] at h
      obtain ⟨rfl, rfl⟩ := h
      rename_i s0 p0 s1 p1
      refine ⟨_, _, _, ?_, ?_, ?_, ?_, eval_word_Bytes p0 p1, fun hp => ⟨ok_word_Bytes p0 p1, sub_erase rfl⟩⟩
      · intro ρ; rfl
      · exact Nat.le_of_ble_eq_true rfl
      · rfl
      · rfl
    · cases h)
theorem eval_word_Get (p0 : ByteArray) (p1 : Int) (p2 : Int) : collapse (fnT (envOf Try.prog 999999 [] []) Try.f65 (Try.f65.body.getD .skip) noBlocks 70 [.sc (.str false p0), .sc (.int .i64 false p1), .sc (.int .i64 false p2)] (fun _ => none) 0) = some (nd_word_Get p0 p1 p2, SV.ev (V.sc (SC.u64 false (m_word_Get_0 p0 p1 p2)))) := by kernel_rfl
theorem tie_word_Get : ModelOk Try.prog 65 (pureM F_word_Get) :=
  pure_ok (E := envOf Try.prog 999999 [] []) (envOf_ok trivial trivial) mixed (g := 65) (fn := Try.f65) (c := Try.f65.body.getD .skip) (by kernel_rfl) (by kernel_rfl) (by kernel_rfl) (Lp := noBlocks) (fl := 70) (fun _ => allBlocks_no _) (by
    intro args ns sv h
    unfold F_word_Get at h
    split at h
    · simp only [Option.some.injEq, Prod.mk.injEq] at h
      obtain ⟨rfl, rfl⟩ := h
      rename_i s0 p0 s1 p1 s2 p2
      refine ⟨_, _, _, ?_, ?_, ?_, ?_, eval_word_Get p0 p1 p2, fun hp => ⟨hp _ List.mem_cons_self, sub_erase rfl⟩⟩
      · intro ρ; rfl
      · exact Nat.le_of_ble_eq_true rfl
      · rfl
      · rfl
    · cases h)
theorem tieR_bus_Bus_IsDevice : ModelOk Try.prog R_bus_Bus_IsDevice.g R_bus_Bus_IsDevice.M :=
  inlR_ok (E := E_bus_Bus_IsDevice) (envOf_ok trivial trivial) mixed (g := 8) (fn := Try.f8) (c := Try.f8.body.getD .skip) (by kernel_rfl) (by kernel_rfl) (by kernel_rfl) (Lp := noBlocks) (fl := 70) (fun _ => allBlocks_no _)
theorem tieR_bus_Bus_Mem : ModelOk Try.prog R_bus_Bus_Mem.g R_bus_Bus_Mem.M :=
  inlR_ok (E := E_bus_Bus_Mem) (envOf_ok trivial trivial) mixed (g := 14) (fn := Try.f14) (c := Try.f14.body.getD .skip) (by kernel_rfl) (by kernel_rfl) (by kernel_rfl) (Lp := noBlocks) (fl := 70) (fun _ => allBlocks_no _)
theorem tieR_pte_May_1 : ModelOk Try.prog R_pte_May_1.g R_pte_May_1.M :=
  inlR_ok (E := E_pte_May_1) (envOf_ok trivial trivial) mixed (g := 59) (fn := Try.f59) (c := Try.f59.body.getD .skip) (by kernel_rfl) (by kernel_rfl) (by kernel_rfl) (Lp := noBlocks) (fl := 70) (fun _ => allBlocks_no _)
theorem tieB_bus_Bus_port : BModelOk Try.prog B_bus_Bus_port.g B_bus_Bus_port.M :=
  splitUM_ok (inl_ok (E := E_bus_Bus_port) (envOf_ok trivial trivial) mixed (g := 61) (fn := Try.f61) (c := Try.f61.body.getD .skip) (by kernel_rfl) (by kernel_rfl) (by kernel_rfl) (Lp := noBlocks) (fl := 70) (fun _ => allBlocks_no _))
theorem tieB_sync_atomic_LoadUint64 : BModelOk Try.prog B_sync_atomic_LoadUint64.g B_sync_atomic_LoadUint64.M :=
  atomLoad_ok (fn := Try.f64) (by kernel_rfl) (by kernel_rfl) (by kernel_rfl) (by kernel_rfl) (by kernel_rfl)
theorem tieB_mem_New : BModelOk Try.prog B_mem_New.g B_mem_New.M :=
  inl_ok (E := E_mem_New) (envOf_ok trivial trivial) mixed (g := 11) (fn := Try.f11) (c := Try.f11.body.getD .skip) (by kernel_rfl) (by kernel_rfl) (by kernel_rfl) (Lp := noBlocks) (fl := 70) (fun _ => allBlocks_no _)
end Go.X.M

set_option maxRecDepth 100000
set_option linter.unusedVariables false
namespace Go.X.M
open Go Go.X Go.Proofs
theorem eval_access_Bad (p0 : BitVec 64) (p1 : Int) (p2 : Bool) : collapse (fnT (envOf Try.prog 999999 [pureE 23 F_access_cause] []) Try.f22 (Try.f22.body.getD .skip) noBlocks 70 [.sc (.u64 false p0), .sc (.int .i64 false p1), .sc (.bool false p2)] (fun _ => none) 0) = some (nd_access_Bad p0 p1 p2, SV.ev
  (V.agg
    [Seg.one (SC.u64 false (m_access_Bad_0 p0 p1 p2)), Seg.one (SC.u64 false p0), Seg.one (SC.u64 true (m_access_Bad_1 p0 p1 p2)),
      Seg.one (SC.bool false p2)])) := by kernel_rfl
theorem tie_access_Bad : ModelOk Try.prog 22 (pureM F_access_Bad) :=
  pure_ok (E := envOf Try.prog 999999 [pureE 23 F_access_cause] []) (envOf_ok ⟨pureE_ok tie_access_cause, trivial⟩ trivial) mixed (g := 22) (fn := Try.f22) (c := Try.f22.body.getD .skip) (by kernel_rfl) (by kernel_rfl) (by kernel_rfl) (Lp := noBlocks) (fl := 70) (fun _ => allBlocks_no _) (by
    intro args ns sv h
    unfold F_access_Bad at h
    split at h
    · simp only [Option.some.injEq, Prod.mk.injEq] at h
      obtain ⟨rfl, rfl⟩ := h
      rename_i s0 p0 s1 p1 s2 p2
      refine ⟨_, _, _, ?_, ?_, ?_, ?_, eval_access_Bad p0 p1 p2, fun hp => ⟨trivial, sub_erase rfl⟩⟩
      · intro ρ; rfl
      · exact Nat.le_of_ble_eq_true rfl
      · rfl
      · rfl
    · cases h)
theorem eval_two_faults_page (p0 : BitVec 64) (p1 : Int) (p2 : Bool) : collapse (fnT (envOf Try.prog 999999 [pureE 39 F_two_faults_fault] []) Try.f25 (Try.f25.body.getD .skip) noBlocks 70 [.agg [.one (.u64 false p0), .one (.int .i64 false p1), .one (.bool false p2)]] (fun _ => none) 0) = some (nd_two_faults_page p0 p1 p2, SV.ev
  (V.agg
    [Seg.one (SC.u64 false (m_two_faults_page_0 p0 p1 p2)), Seg.one (SC.u64 false p0),
      Seg.one (SC.u64 false (m_two_faults_page_1 p0 p1 p2)), Seg.one (SC.bool false p2)])) := by kernel_rfl
theorem tie_two_faults_page : ModelOk Try.prog 25 (pureM F_two_faults_page) :=
  pure_ok (E := envOf Try.prog 999999 [pureE 39 F_two_faults_fault] []) (envOf_ok ⟨pureE_ok tie_two_faults_fault, trivial⟩ trivial) mixed (g := 25) (fn := Try.f25) (c := Try.f25.body.getD .skip) (by kernel_rfl) (by kernel_rfl) (by kernel_rfl) (Lp := noBlocks) (fl := 70) (fun _ => allBlocks_no _) (by
    intro args ns sv h
    unfold F_two_faults_page at h
    split at h
    · simp only [Option.some.injEq, Prod.mk.injEq] at h
      obtain ⟨rfl, rfl⟩ := h
      rename_i s0 p0 s1 p1 s2 p2
      refine ⟨_, _, _, ?_, ?_, ?_, ?_, eval_two_faults_page p0 p1 p2, fun hp => ⟨trivial, sub_erase rfl⟩⟩
      · intro ρ; rfl
      · exact Nat.le_of_ble_eq_true rfl
      · rfl
      · rfl
    · cases h)
theorem eval_two_faults_guest (p0 : BitVec 64) (p1 : Int) (p2 : Bool) (p3 : BitVec 64) : collapse (fnT (envOf Try.prog 999999 [pureE 39 F_two_faults_fault] []) Try.f26 (Try.f26.body.getD .skip) noBlocks 70 [.agg [.one (.u64 false p0), .one (.int .i64 false p1), .one (.bool false p2)], .sc (.u64 false p3)] (fun _ => none) 0) = some (nd_two_faults_guest p0 p1 p2 p3, SV.ev
  (V.agg
    [Seg.one (SC.u64 false (m_two_faults_guest_0 p0 p1 p2 p3)), Seg.one (SC.u64 false p0),
      Seg.one (SC.u64 false (m_two_faults_guest_1 p0 p1 p2 p3)), Seg.one (SC.bool false p2)])) := by kernel_rfl
theorem tie_two_faults_guest : ModelOk Try.prog 26 (pureM F_two_faults_guest) :=
  pure_ok (E := envOf Try.prog 999999 [pureE 39 F_two_faults_fault] []) (envOf_ok ⟨pureE_ok tie_two_faults_fault, trivial⟩ trivial) mixed (g := 26) (fn := Try.f26) (c := Try.f26.body.getD .skip) (by kernel_rfl) (by kernel_rfl) (by kernel_rfl) (Lp := noBlocks) (fl := 70) (fun _ => allBlocks_no _) (by
    intro args ns sv h
    unfold F_two_faults_guest at h
    split at h
    · simp only [Option.some.injEq, Prod.mk.injEq] at h
      obtain ⟨rfl, rfl⟩ := h
      rename_i s0 p0 s1 p1 s2 p2 s3 p3
      refine ⟨_, _, _, ?_, ?_, ?_, ?_, eval_two_faults_guest p0 p1 p2 p3, fun hp => ⟨trivial, sub_erase rfl⟩⟩
      · intro ρ; rfl
      · exact Nat.le_of_ble_eq_true rfl
      · rfl
      · rfl
    · cases h)
theorem eval_insn_Of (p0 : Int) : collapse (fnT (envOf Try.prog 999999 [pureE 16 F_insn_Class, pureE 51 F_insn_jumps, pureE 52 F_insn_withNumber] []) Try.f32 (Try.f32.body.getD .skip) noBlocks 70 [.sc (.int .i64 false p0)] (fun _ => none) 0) = some (nd_insn_Of p0, SV.ev
  (V.agg
    [Seg.one (SC.bool false (m_insn_Of_0 p0)), Seg.one (SC.bool false (m_insn_Of_1 p0)),
      Seg.one (SC.bool false (m_insn_Of_2 p0)), Seg.one (SC.bool false (m_insn_Of_3 p0)),
      Seg.one (SC.int IntKind.i64 false (m_insn_Of_4 p0)), Seg.one (SC.int IntKind.i64 false (m_insn_Of_5 p0)),
      Seg.one (SC.int IntKind.i64 false (m_insn_Of_6 p0))])) := by kernel_rfl
theorem tie_insn_Of : ModelOk Try.prog 32 (pureM F_insn_Of) :=
  pure_ok (E := envOf Try.prog 999999 [pureE 16 F_insn_Class, pureE 51 F_insn_jumps, pureE 52 F_insn_withNumber] []) (envOf_ok ⟨pureE_ok tie_insn_Class, pureE_ok tie_insn_jumps, pureE_ok tie_insn_withNumber, trivial⟩ trivial) mixed (g := 32) (fn := Try.f32) (c := Try.f32.body.getD .skip) (by kernel_rfl) (by kernel_rfl) (by kernel_rfl) (Lp := noBlocks) (fl := 70) (fun _ => allBlocks_no _) (by
    intro args ns sv h
    unfold F_insn_Of at h
    split at h
    · simp only [Option.some.injEq, Prod.mk.injEq] at h
      obtain ⟨rfl, rfl⟩ := h
      rename_i s0 p0
      refine ⟨_, _, _, ?_, ?_, ?_, ?_, eval_insn_Of p0, fun hp => ⟨trivial, sub_erase rfl⟩⟩
      · intro ρ; rfl
      · exact Nat.le_of_ble_eq_true rfl
      · rfl
      · rfl
    · cases h)
theorem eval_word_Bits (p0 : BitVec 64) (p1 : Int) (p2 : Int) : collapse (fnT (envOf Try.prog 999999 [pureE 53 F_word_part, pureE 54 F_word_mask] []) Try.f34 (Try.f34.body.getD .skip) noBlocks 70 [.sc (.u64 false p0), .sc (.int .i64 false p1), .sc (.int .i64 false p2)] (fun _ => none) 0) = some (nd_word_Bits p0 p1 p2, SV.ev (V.sc (SC.u64 false (m_word_Bits_0 p0 p1 p2)))) := by kernel_rfl
theorem tie_word_Bits : ModelOk Try.prog 34 (pureM F_word_Bits) :=
  pure_ok (E := envOf Try.prog 999999 [pureE 53 F_word_part, pureE 54 F_word_mask] []) (envOf_ok ⟨pureE_ok tie_word_part, pureE_ok tie_word_mask, trivial⟩ trivial) mixed (g := 34) (fn := Try.f34) (c := Try.f34.body.getD .skip) (by kernel_rfl) (by kernel_rfl) (by kernel_rfl) (Lp := noBlocks) (fl := 70) (fun _ => allBlocks_no _) (by
    intro args ns sv h
    unfold F_word_Bits at h
    split at h
    · simp only [Option.some.injEq, Prod.mk.injEq] at h
      obtain ⟨rfl, rfl⟩ := h
      rename_i s0 p0 s1 p1 s2 p2
      refine ⟨_, _, _, ?_, ?_, ?_, ?_, eval_word_Bits p0 p1 p2, fun hp => ⟨hp _ List.mem_cons_self, sub_erase rfl⟩⟩
      · intro ρ; rfl
      · exact Nat.le_of_ble_eq_true rfl
      · rfl
      · rfl
    · cases h)
theorem eval_word_Zext (p0 : BitVec 64) (p1 : Int) : collapse (fnT (envOf Try.prog 999999 [pureE 54 F_word_mask] []) Try.f36 (Try.f36.body.getD .skip) noBlocks 70 [.sc (.u64 false p0), .sc (.int .i64 false p1)] (fun _ => none) 0) = some (nd_word_Zext p0 p1, SV.ev (V.sc (SC.u64 false (m_word_Zext_0 p0 p1)))) := by kernel_rfl
theorem tie_word_Zext : ModelOk Try.prog 36 (pureM F_word_Zext) :=
  pure_ok (E := envOf Try.prog 999999 [pureE 54 F_word_mask] []) (envOf_ok ⟨pureE_ok tie_word_mask, trivial⟩ trivial) mixed (g := 36) (fn := Try.f36) (c := Try.f36.body.getD .skip) (by kernel_rfl) (by kernel_rfl) (by kernel_rfl) (Lp := noBlocks) (fl := 70) (fun _ => allBlocks_no _) (by
    intro args ns sv h
    unfold F_word_Zext at h
    split at h
    · simp only [Option.some.injEq, Prod.mk.injEq] at h
      obtain ⟨rfl, rfl⟩ := h
      rename_i s0 p0 s1 p1
      refine ⟨_, _, _, ?_, ?_, ?_, ?_, eval_word_Zext p0 p1, fun hp => ⟨hp _ List.mem_cons_self, sub_erase rfl⟩⟩
      · intro ρ; rfl
      · exact Nat.le_of_ble_eq_true rfl
      · rfl
      · rfl
    · cases h)
theorem eval_two_faults_access (p0 : BitVec 64) (p1 : Int) (p2 : Bool) : collapse (fnT (envOf Try.prog 999999 [pureE 39 F_two_faults_fault] []) Try.f46 (Try.f46.body.getD .skip) noBlocks 70 [.agg [.one (.u64 false p0), .one (.int .i64 false p1), .one (.bool false p2)]] (fun _ => none) 0) = some (nd_two_faults_access p0 p1 p2, SV.ev
  (V.agg
    [Seg.one (SC.u64 false (m_two_faults_access_0 p0 p1 p2)), Seg.one (SC.u64 false p0),
      Seg.one (SC.u64 false (m_two_faults_access_1 p0 p1 p2)), Seg.one (SC.bool false p2)])) := by kernel_rfl
theorem tie_two_faults_access : ModelOk Try.prog 46 (pureM F_two_faults_access) :=
  pure_ok (E := envOf Try.prog 999999 [pureE 39 F_two_faults_fault] []) (envOf_ok ⟨pureE_ok tie_two_faults_fault, trivial⟩ trivial) mixed (g := 46) (fn := Try.f46) (c := Try.f46.body.getD .skip) (by kernel_rfl) (by kernel_rfl) (by kernel_rfl) (Lp := noBlocks) (fl := 70) (fun _ => allBlocks_no _) (by
    intro args ns sv h
    unfold F_two_faults_access at h
    split at h
    · simp only [Option.some.injEq, Prod.mk.injEq] at h
      obtain ⟨rfl, rfl⟩ := h
      rename_i s0 p0 s1 p1 s2 p2
      refine ⟨_, _, _, ?_, ?_, ?_, ?_, eval_two_faults_access p0 p1 p2, fun hp => ⟨trivial, sub_erase rfl⟩⟩
      · intro ρ; rfl
      · exact Nat.le_of_ble_eq_true rfl
      · rfl
      · rfl
    · cases h)
theorem eval_pte_Leaf (p0 : BitVec 64) : collapse (fnT (envOf Try.prog 999999 [pureE 55 F_pte_Is] []) Try.f56 (Try.f56.body.getD .skip) noBlocks 70 [.sc (.u64 false p0)] (fun _ => none) 0) = some (nd_pte_Leaf p0, SV.ev (V.sc (SC.bool false (m_pte_Leaf_0 p0)))) := by kernel_rfl
theorem tie_pte_Leaf : ModelOk Try.prog 56 (pureM F_pte_Leaf) :=
  pure_ok (E := envOf Try.prog 999999 [pureE 55 F_pte_Is] []) (envOf_ok ⟨pureE_ok tie_pte_Is, trivial⟩ trivial) mixed (g := 56) (fn := Try.f56) (c := Try.f56.body.getD .skip) (by kernel_rfl) (by kernel_rfl) (by kernel_rfl) (Lp := noBlocks) (fl := 70) (fun _ => allBlocks_no _) (by
    intro args ns sv h
    unfold F_pte_Leaf at h
    split at h
    · simp only [Option.some.injEq, Prod.mk.injEq] at h
      obtain ⟨rfl, rfl⟩ := h
      rename_i s0 p0
      refine ⟨_, _, _, ?_, ?_, ?_, ?_, eval_pte_Leaf p0, fun hp => ⟨ok_pte_Leaf p0, sub_erase rfl⟩⟩
      · intro ρ; rfl
      · exact Nat.le_of_ble_eq_true rfl
      · rfl
      · rfl
    · cases h)
theorem eval_word_Set (p0 : BitVec 64) (p1 : Int) (p2 : Int) (p3 : BitVec 64) : collapse (fnT (envOf Try.prog 999999 [pureE 53 F_word_part, pureE 54 F_word_mask] []) Try.f57 (Try.f57.body.getD .skip) noBlocks 70 [.sc (.u64 false p0), .sc (.int .i64 false p1), .sc (.int .i64 false p2), .sc (.u64 false p3)] (fun _ => none) 0) = some (nd_word_Set p0 p1 p2 p3, SV.ev (V.sc (SC.u64 false (m_word_Set_0 p0 p1 p2 p3)))) := by kernel_rfl
theorem tie_word_Set : ModelOk Try.prog 57 (pureM F_word_Set) :=
  pure_ok (E := envOf Try.prog 999999 [pureE 53 F_word_part, pureE 54 F_word_mask] []) (envOf_ok ⟨pureE_ok tie_word_part, pureE_ok tie_word_mask, trivial⟩ trivial) mixed (g := 57) (fn := Try.f57) (c := Try.f57.body.getD .skip) (by kernel_rfl) (by kernel_rfl) (by kernel_rfl) (Lp := noBlocks) (fl := 70) (fun _ => allBlocks_no _) (by
    intro args ns sv h
    unfold F_word_Set at h
    split at h
    · simp only [Option.some.injEq, Prod.mk.injEq] at h
      obtain ⟨rfl, rfl⟩ := h
      rename_i s0 p0 s1 p1 s2 p2 s3 p3
      refine ⟨_, _, _, ?_, ?_, ?_, ?_, eval_word_Set p0 p1 p2 p3, fun hp => ⟨hp _ List.mem_cons_self, sub_erase rfl⟩⟩
      · intro ρ; rfl
      · exact Nat.le_of_ble_eq_true rfl
      · rfl
      · rfl
    · cases h)
theorem tieB_bus_New : BModelOk Try.prog B_bus_New.g B_bus_New.M :=
  inl_ok (E := E_bus_New) (envOf_ok trivial ⟨tieB_mem_New, trivial⟩) mixed (g := 5) (fn := Try.f5) (c := Try.f5.body.getD .skip) (by kernel_rfl) (by kernel_rfl) (by kernel_rfl) (Lp := noBlocks) (fl := 70) (fun _ => allBlocks_no _)
theorem tieB_bus_Bus_console : BModelOk Try.prog B_bus_Bus_console.g B_bus_Bus_console.M :=
  inl_ok (E := E_bus_Bus_console) (envOf_ok trivial ⟨tieB_bus_Bus_port, trivial⟩) mixed (g := 47) (fn := Try.f47) (c := Try.f47.body.getD .skip) (by kernel_rfl) (by kernel_rfl) (by kernel_rfl) (Lp := noBlocks) (fl := 70) (fun _ => allBlocks_no _)
theorem tieB_mem_Memory_Write : BModelOk Try.prog B_mem_Memory_Write.g B_mem_Memory_Write.M :=
  inl_ok (E := E_mem_Memory_Write) (envOf_ok ⟨pureE_ok tie_mem_check, pureE_ok tie_word_Bytes, trivial⟩ trivial) mixed (g := 48) (fn := Try.f48) (c := Try.f48.body.getD .skip) (by kernel_rfl) (by kernel_rfl) (by kernel_rfl) (Lp := noBlocks) (fl := 70) (fun _ => allBlocks_no _)
theorem tieB_sync_atomic_Uint64_Load : BModelOk Try.prog B_sync_atomic_Uint64_Load.g B_sync_atomic_Uint64_Load.M :=
  inl_ok (E := E_sync_atomic_Uint64_Load) (envOf_ok trivial ⟨tieB_sync_atomic_LoadUint64, trivial⟩) mixed (g := 49) (fn := Try.f49) (c := Try.f49.body.getD .skip) (by kernel_rfl) (by kernel_rfl) (by kernel_rfl) (Lp := noBlocks) (fl := 70) (fun _ => allBlocks_no _)
theorem tieR_mem_Memory_Read : ModelOk Try.prog R_mem_Memory_Read.g R_mem_Memory_Read.M :=
  inlR_ok (E := E_mem_Memory_Read) (envOf_ok ⟨pureE_ok tie_mem_check, pureE_ok tie_word_Get, trivial⟩ trivial) mixed (g := 50) (fn := Try.f50) (c := Try.f50.body.getD .skip) (by kernel_rfl) (by kernel_rfl) (by kernel_rfl) (Lp := noBlocks) (fl := 70) (fun _ => allBlocks_no _)
end Go.X.M

set_option maxRecDepth 100000
set_option linter.unusedVariables false
namespace Go.X.M
open Go Go.X Go.Proofs
theorem eval_access_Aligned (p0 : BitVec 64) (p1 : Int) (p2 : Int) (p3 : Bool) : collapse (fnT (envOf Try.prog 999999 [pureE 22 F_access_Bad, pureE 23 F_access_cause] []) Try.f12 (Try.f12.body.getD .skip) noBlocks 70 [.sc (.u64 false p0), .sc (.int .i64 false p1), .sc (.int .i64 false p2), .sc (.bool false p3)] (fun _ => none) 0) = some (nd_access_Aligned p0 p1 p2 p3, SV.tup
  [V.agg
      [Seg.one (SC.u64 false (m_access_Aligned_0 p0 p1 p2 p3)), Seg.one (SC.u64 false (m_access_Aligned_1 p0 p1 p2 p3)),
        Seg.one (SC.u64 false (m_access_Aligned_2 p0 p1 p2 p3)), Seg.one (SC.bool false (m_access_Aligned_3 p0 p1 p2 p3))],
    V.sc (SC.bool false (m_access_Aligned_4 p0 p1 p2 p3))]) := by kernel_rfl
theorem tie_access_Aligned : ModelOk Try.prog 12 (pureM F_access_Aligned) :=
  pure_ok (E := envOf Try.prog 999999 [pureE 22 F_access_Bad, pureE 23 F_access_cause] []) (envOf_ok ⟨pureE_ok tie_access_Bad, pureE_ok tie_access_cause, trivial⟩ trivial) mixed (g := 12) (fn := Try.f12) (c := Try.f12.body.getD .skip) (by kernel_rfl) (by kernel_rfl) (by kernel_rfl) (Lp := noBlocks) (fl := 70) (fun _ => allBlocks_no _) (by
    intro args ns sv h
    unfold F_access_Aligned at h
    split at h
    · simp only [Option.some.injEq, Prod.mk.injEq] at h
      obtain ⟨rfl, rfl⟩ := h
      rename_i s0 p0 s1 p1 s2 p2 s3 p3
      refine ⟨_, _, _, ?_, ?_, ?_, ?_, eval_access_Aligned p0 p1 p2 p3, fun hp => ⟨ok_access_Aligned p0 p1 p2 p3, sub_erase rfl⟩⟩
      · intro ρ; rfl
      · exact Nat.le_of_ble_eq_true rfl
      · rfl
      · rfl
    · cases h)
theorem eval_insn_Is (p0 : Int) (p1 : Int) (p2 : Int) (p3 : Int) (p4 : Int) (p5 : Int) : collapse (fnT (envOf Try.prog 999999 [pureE 16 F_insn_Class, pureE 32 F_insn_Of, pureE 33 F_insn_field] []) Try.f17 (Try.f17.body.getD .skip) noBlocks 70 [.agg [.one (.int .i64 false p0), .one (.int .i64 false p1), .one (.int .i64 false p2), .one (.int .i64 false p3), .one (.int .i64 false p4), .one (.int .i64 false p5)]] (fun _ => none) 0) = some (nd_insn_Is p0 p1 p2 p3 p4 p5, SV.ev (V.sc (SC.bool false (m_insn_Is_0 p0 p1 p2 p3 p4 p5)))) := by kernel_rfl
theorem tie_insn_Is : ModelOk Try.prog 17 (pureM F_insn_Is) :=
  pure_ok (E := envOf Try.prog 999999 [pureE 16 F_insn_Class, pureE 32 F_insn_Of, pureE 33 F_insn_field] []) (envOf_ok ⟨pureE_ok tie_insn_Class, pureE_ok tie_insn_Of, pureE_ok tie_insn_field, trivial⟩ trivial) mixed (g := 17) (fn := Try.f17) (c := Try.f17.body.getD .skip) (by kernel_rfl) (by kernel_rfl) (by kernel_rfl) (Lp := noBlocks) (fl := 70) (fun _ => allBlocks_no _) (by
    intro args ns sv h
    unfold F_insn_Is at h
    split at h
    · simp only [Option.some.injEq, Prod.mk.injEq] at h
      obtain ⟨rfl, rfl⟩ := h
      rename_i s0 p0 s1 p1 s2 p2 s3 p3 s4 p4 s5 p5
      refine ⟨_, _, _, ?_, ?_, ?_, ?_, eval_insn_Is p0 p1 p2 p3 p4 p5, fun hp => ⟨ok_insn_Is p0 p1 p2 p3 p4 p5, sub_erase rfl⟩⟩
      · intro ρ; rfl
      · exact Nat.le_of_ble_eq_true rfl
      · rfl
      · rfl
    · cases h)
theorem eval_alu_Extend (p0 : Int) (p1 : BitVec 64) : collapse (fnT (envOf Try.prog 999999 [pureE 20 F_insn_Size, pureE 36 F_word_Zext, pureE 37 F_word_Sext] []) Try.f21 (Try.f21.body.getD .skip) noBlocks 70 [.sc (.int .i64 false p0), .sc (.u64 false p1)] (fun _ => none) 0) = some (nd_alu_Extend p0 p1, SV.ev (V.sc (SC.u64 false (m_alu_Extend_0 p0 p1)))) := by kernel_rfl
theorem tie_alu_Extend : ModelOk Try.prog 21 (pureM F_alu_Extend) :=
  pure_ok (E := envOf Try.prog 999999 [pureE 20 F_insn_Size, pureE 36 F_word_Zext, pureE 37 F_word_Sext] []) (envOf_ok ⟨pureE_ok tie_insn_Size, pureE_ok tie_word_Zext, pureE_ok tie_word_Sext, trivial⟩ trivial) mixed (g := 21) (fn := Try.f21) (c := Try.f21.body.getD .skip) (by kernel_rfl) (by kernel_rfl) (by kernel_rfl) (Lp := noBlocks) (fl := 70) (fun _ => allBlocks_no _) (by
    intro args ns sv h
    unfold F_alu_Extend at h
    split at h
    · simp only [Option.some.injEq, Prod.mk.injEq] at h
      obtain ⟨rfl, rfl⟩ := h
      rename_i s0 p0 s1 p1
      refine ⟨_, _, _, ?_, ?_, ?_, ?_, eval_alu_Extend p0 p1, fun hp => ⟨hp _ List.mem_cons_self, sub_erase rfl⟩⟩
      · intro ρ; rfl
      · exact Nat.le_of_ble_eq_true rfl
      · rfl
      · rfl
    · cases h)
theorem eval_two_faults_of (p0 : BitVec 64) (p1 : Int) (p2 : Bool) (p3 : Int) (p4 : BitVec 64) : collapse (fnT (envOf Try.prog 999999 [pureE 26 F_two_faults_guest, pureE 46 F_two_faults_access] []) Try.f29 (Try.f29.body.getD .skip) noBlocks 70 [.agg [.one (.u64 false p0), .one (.int .i64 false p1), .one (.bool false p2)], .sc (.int .i64 false p3), .sc (.u64 false p4)] (fun _ => none) 0) = some (nd_two_faults_of p0 p1 p2 p3 p4, SV.ev
  (V.agg
    [Seg.one (SC.u64 false (m_two_faults_of_0 p0 p1 p2 p3 p4)), Seg.one (SC.u64 false (m_two_faults_of_1 p0 p1 p2 p3 p4)),
      Seg.one (SC.u64 false (m_two_faults_of_2 p0 p1 p2 p3 p4)), Seg.one (SC.bool false (m_two_faults_of_3 p0 p1 p2 p3 p4))])) := by kernel_rfl
theorem tie_two_faults_of : ModelOk Try.prog 29 (pureM F_two_faults_of) :=
  pure_ok (E := envOf Try.prog 999999 [pureE 26 F_two_faults_guest, pureE 46 F_two_faults_access] []) (envOf_ok ⟨pureE_ok tie_two_faults_guest, pureE_ok tie_two_faults_access, trivial⟩ trivial) mixed (g := 29) (fn := Try.f29) (c := Try.f29.body.getD .skip) (by kernel_rfl) (by kernel_rfl) (by kernel_rfl) (Lp := noBlocks) (fl := 70) (fun _ => allBlocks_no _) (by
    intro args ns sv h
    unfold F_two_faults_of at h
    split at h
    · simp only [Option.some.injEq, Prod.mk.injEq] at h
      obtain ⟨rfl, rfl⟩ := h
      rename_i s0 p0 s1 p1 s2 p2 s3 p3 s4 p4
      refine ⟨_, _, _, ?_, ?_, ?_, ?_, eval_two_faults_of p0 p1 p2 p3 p4, fun hp => ⟨trivial, sub_erase rfl⟩⟩
      · intro ρ; rfl
      · exact Nat.le_of_ble_eq_true rfl
      · rfl
      · rfl
    · cases h)
theorem eval_two_join (p0 : Int) (p1 : BitVec 64) : collapse (fnT (envOf Try.prog 999999 [pureE 36 F_word_Zext] []) Try.f43 (Try.f43.body.getD .skip) noBlocks 70 [.sc (.int .i64 false p0), .sc (.u64 false p1)] (fun _ => none) 0) = some (nd_two_join p0 p1, SV.ev (V.sc (SC.u64 false (m_two_join_0 p0 p1)))) := by kernel_rfl
theorem tie_two_join : ModelOk Try.prog 43 (pureM F_two_join) :=
  pure_ok (E := envOf Try.prog 999999 [pureE 36 F_word_Zext] []) (envOf_ok ⟨pureE_ok tie_word_Zext, trivial⟩ trivial) mixed (g := 43) (fn := Try.f43) (c := Try.f43.body.getD .skip) (by kernel_rfl) (by kernel_rfl) (by kernel_rfl) (Lp := noBlocks) (fl := 70) (fun _ => allBlocks_no _) (by
    intro args ns sv h
    unfold F_two_join at h
    split at h
    · simp only [Option.some.injEq, Prod.mk.injEq] at h
      obtain ⟨rfl, rfl⟩ := h
      rename_i s0 p0 s1 p1
      refine ⟨_, _, _, ?_, ?_, ?_, ?_, eval_two_join p0 p1, fun hp => ⟨hp _ List.mem_cons_self, sub_erase rfl⟩⟩
      · intro ρ; rfl
      · exact Nat.le_of_ble_eq_true rfl
      · rfl
      · rfl
    · cases h)
theorem eval_pte_Frame (p0 : BitVec 64) : collapse (fnT (envOf Try.prog 999999 [pureE 34 F_word_Bits] []) Try.f44 (Try.f44.body.getD .skip) noBlocks 70 [.sc (.u64 false p0)] (fun _ => none) 0) = some (nd_pte_Frame p0, SV.ev (V.sc (SC.int IntKind.i64 false (m_pte_Frame_0 p0)))) := by kernel_rfl
theorem tie_pte_Frame : ModelOk Try.prog 44 (pureM F_pte_Frame) :=
  pure_ok (E := envOf Try.prog 999999 [pureE 34 F_word_Bits] []) (envOf_ok ⟨pureE_ok tie_word_Bits, trivial⟩ trivial) mixed (g := 44) (fn := Try.f44) (c := Try.f44.body.getD .skip) (by kernel_rfl) (by kernel_rfl) (by kernel_rfl) (Lp := noBlocks) (fl := 70) (fun _ => allBlocks_no _) (by
    intro args ns sv h
    unfold F_pte_Frame at h
    split at h
    · simp only [Option.some.injEq, Prod.mk.injEq] at h
      obtain ⟨rfl, rfl⟩ := h
      rename_i s0 p0
      refine ⟨_, _, _, ?_, ?_, ?_, ?_, eval_pte_Frame p0, fun hp => ⟨hp _ List.mem_cons_self, sub_erase rfl⟩⟩
      · intro ρ; rfl
      · exact Nat.le_of_ble_eq_true rfl
      · rfl
      · rfl
    · cases h)
theorem tieB_bus_Bus_Write : BModelOk Try.prog B_bus_Bus_Write.g B_bus_Bus_Write.M :=
  inl_ok (E := E_bus_Bus_Write) (envOf_ok trivial ⟨tieB_bus_Bus_console, tieB_mem_Memory_Write, trivial⟩) mixed (g := 30) (fn := Try.f30) (c := Try.f30.body.getD .skip) (by kernel_rfl) (by kernel_rfl) (by kernel_rfl) (Lp := noBlocks) (fl := 70) (fun _ => allBlocks_no _)
theorem tieB_bus_Bus_Read : BModelOk Try.prog B_bus_Bus_Read.g B_bus_Bus_Read.M :=
  inl_ok (E := E_bus_Bus_Read) (envOf_ok ⟨⟨tieR_mem_Memory_Read, fun _ _ _ _ => rfl⟩, trivial⟩ ⟨tieB_bus_Bus_console, tieB_sync_atomic_Uint64_Load, trivial⟩) mixed (g := 31) (fn := Try.f31) (c := Try.f31.body.getD .skip) (by kernel_rfl) (by kernel_rfl) (by kernel_rfl) (Lp := noBlocks) (fl := 70) (fun _ => allBlocks_no _)
theorem tieR_walk_Entry : ModelOk Try.prog R_walk_Entry.g R_walk_Entry.M :=
  inlR_ok (E := E_walk_Entry) (envOf_ok ⟨⟨tieR_mem_Memory_Read, fun _ _ _ _ => rfl⟩, trivial⟩ trivial) mixed (g := 58) (fn := Try.f58) (c := Try.f58.body.getD .skip) (by kernel_rfl) (by kernel_rfl) (by kernel_rfl) (Lp := noBlocks) (fl := 70) (fun _ => allBlocks_no _)
theorem tieR_csr_Bit : ModelOk Try.prog R_csr_Bit.g R_csr_Bit.M :=
  inlR_ok (E := E_csr_Bit) (envOf_ok ⟨pureE_ok tie_word_Bits, trivial⟩ trivial) mixed (g := 18) (fn := Try.f18) (c := Try.f18.body.getD .skip) (by kernel_rfl) (by kernel_rfl) (by kernel_rfl) (Lp := noBlocks) (fl := 70) (fun _ => allBlocks_no _)
end Go.X.M

set_option maxRecDepth 100000
set_option linter.unusedVariables false
namespace Go.X.M
open Go Go.X Go.Proofs
theorem tieB_access_At : BModelOk Try.prog B_access_At.g B_access_At.M :=
  inl_ok (E := E_access_At) (envOf_ok ⟨pureE_ok tie_access_Bad, ⟨tieR_bus_Bus_IsDevice, fun _ _ _ _ => rfl⟩, trivial⟩ ⟨tieB_bus_Bus_Write, tieB_bus_Bus_Read, trivial⟩) mixed (g := 15) (fn := Try.f15) (c := Try.f15.body.getD .skip) (by kernel_rfl) (by kernel_rfl) (by kernel_rfl) (Lp := noBlocks) (fl := 70) (fun _ => allBlocks_no _)
theorem tieR_walk_Walk_1 : ModelOk Try.prog R_walk_Walk_1.g R_walk_Walk_1.M :=
  inlR_ok (E := E_walk_Walk_1) (envOf_ok ⟨⟨tieR_walk_Entry, fun _ _ _ _ => rfl⟩, trivial⟩ trivial) mixed (g := 60) (fn := Try.f60) (c := Try.f60.body.getD .skip) (by kernel_rfl) (by kernel_rfl) (by kernel_rfl) (Lp := noBlocks) (fl := 70) (fun _ => allBlocks_no _)
theorem tieR_two_on : ModelOk Try.prog R_two_on.g R_two_on.M :=
  inlR_ok (E := E_two_on) (envOf_ok ⟨pureE_ok tie_word_Bits, ⟨tieR_csr_Bit, fun _ _ _ _ => rfl⟩, trivial⟩ trivial) mixed (g := 38) (fn := Try.f38) (c := Try.f38.body.getD .skip) (by kernel_rfl) (by kernel_rfl) (by kernel_rfl) (Lp := noBlocks) (fl := 70) (fun _ => allBlocks_no _)
end Go.X.M

set_option maxRecDepth 100000
set_option linter.unusedVariables false
namespace Go.X.M
open Go Go.X Go.Proofs
theorem eval_pte_May (p0 : Int) (p1 : Int) (p2 : Bool) (p3 : Bool) (p4 : Bool) : collapse (fnT (envOf Try.prog 999999 [R_pte_May_1, R_walk_Walk_1] []) Try.f42 (Try.f42.body.getD .skip) noBlocks 70 [.sc (.int .i64 false p0), .sc (.int .i64 false p1), .sc (.bool false p2), .sc (.bool false p3), .sc (.bool false p4)] (fun _ => none) 0) = some (nd_pte_May p0 p1 p2 p3 p4, SV.ev (V.sc (SC.bool false (m_pte_May_0 p0 p1 p2 p3 p4)))) := by kernel_rfl
theorem tie_pte_May : ModelOk Try.prog 42 (pureM F_pte_May) :=
  pure_ok (E := envOf Try.prog 999999 [R_pte_May_1, R_walk_Walk_1] []) (envOf_ok ⟨⟨tieR_pte_May_1, fun _ _ _ _ => rfl⟩, ⟨tieR_walk_Walk_1, fun _ _ _ _ => rfl⟩, trivial⟩ trivial) mixed (g := 42) (fn := Try.f42) (c := Try.f42.body.getD .skip) (by kernel_rfl) (by kernel_rfl) (by kernel_rfl) (Lp := noBlocks) (fl := 70) (fun _ => allBlocks_no _) (by
    intro args ns sv h
    unfold F_pte_May at h
    split at h
    · simp only [Option.some.injEq, Prod.mk.injEq] at h
      obtain ⟨rfl, rfl⟩ := h
      rename_i s0 p0 s1 p1 s2 p2 s3 p3 s4 p4
      refine ⟨_, _, _, ?_, ?_, ?_, ?_, eval_pte_May p0 p1 p2 p3 p4, fun hp => ⟨hp _ List.mem_cons_self, sub_erase rfl⟩⟩
      · intro ρ; rfl
      · exact Nat.le_of_ble_eq_true rfl
      · rfl
      · rfl
    · cases h)
theorem tieB_walk_Through : BModelOk Try.prog B_walk_Through.g B_walk_Through.M :=
  inl_ok (E := E_walk_Through) (envOf_ok ⟨pureE_ok tie_word_Bits, pureE_ok tie_pte_Frame, pureE_ok tie_pte_Is, pureE_ok tie_pte_Leaf, pureE_ok tie_word_Set, ⟨tieR_pte_May_1, fun _ _ _ _ => rfl⟩, ⟨tieR_walk_Walk_1, fun _ _ _ _ => rfl⟩, trivial⟩ trivial) mixed (g := 40) (fn := Try.f40) (c := Try.f40.body.getD .skip) (by kernel_rfl) (by kernel_rfl) (by kernel_rfl) (Lp := noBlocks) (fl := 70) (fun _ => allBlocks_no _)
theorem tieR_two_Ask : ModelOk Try.prog R_two_Ask.g R_two_Ask.M :=
  inlR_ok (E := E_two_Ask) (envOf_ok ⟨⟨tieR_csr_Bit, fun _ _ _ _ => rfl⟩, ⟨tieR_two_on, fun _ _ _ _ => rfl⟩, trivial⟩ trivial) mixed (g := 24) (fn := Try.f24) (c := Try.f24.body.getD .skip) (by kernel_rfl) (by kernel_rfl) (by kernel_rfl) (Lp := noBlocks) (fl := 70) (fun _ => allBlocks_no _)
end Go.X.M

set_option maxRecDepth 100000
set_option linter.unusedVariables false
namespace Go.X.M
open Go Go.X Go.Proofs
theorem tieR_walk_Walk : ModelOk Try.prog R_walk_Walk.g R_walk_Walk.M :=
  inlR_ok (E := E_walk_Walk) (envOf_ok ⟨⟨tieR_walk_Walk_1, fun _ _ _ _ => rfl⟩, trivial⟩ ⟨tieB_walk_Through, trivial⟩) mixed (g := 45) (fn := Try.f45) (c := Try.f45.body.getD .skip) (by kernel_rfl) (by kernel_rfl) (by kernel_rfl) (Lp := noBlocks) (fl := 70) (fun _ => allBlocks_no _)
end Go.X.M

set_option maxRecDepth 100000
set_option linter.unusedVariables false
namespace Go.X.M
open Go Go.X Go.Proofs
theorem tieR_two_second : ModelOk Try.prog R_two_second.g R_two_second.M :=
  inlR_ok (E := E_two_second) (envOf_ok ⟨pureE_ok tie_word_Zext, pureE_ok tie_pte_May, pureE_ok tie_two_join, pureE_ok tie_pte_Frame, ⟨tieR_walk_Walk, fun _ _ _ _ => rfl⟩, trivial⟩ trivial) mixed (g := 28) (fn := Try.f28) (c := Try.f28.body.getD .skip) (by kernel_rfl) (by kernel_rfl) (by kernel_rfl) (Lp := noBlocks) (fl := 70) (fun _ => allBlocks_no _)
end Go.X.M

set_option maxRecDepth 100000
set_option linter.unusedVariables false
namespace Go.X.M
open Go Go.X Go.Proofs
theorem tieB_two_reader_entry : BModelOk Try.prog B_two_reader_entry.g B_two_reader_entry.M :=
  inl_ok (E := E_two_reader_entry) (envOf_ok ⟨⟨tieR_two_second, fun _ _ _ _ => rfl⟩, ⟨tieR_walk_Entry, fun _ _ _ _ => rfl⟩, trivial⟩ trivial) mixed (g := 41) (fn := Try.f41) (c := Try.f41.body.getD .skip) (by kernel_rfl) (by kernel_rfl) (by kernel_rfl) (Lp := noBlocks) (fl := 70) (fun _ => allBlocks_no _)
end Go.X.M

set_option maxRecDepth 100000
set_option linter.unusedVariables false
namespace Go.X.M
open Go Go.X Go.Proofs
theorem tieR_two_first : ModelOk Try.prog R_two_first.g R_two_first.M :=
  inlR_ok (E := E_two_first) (envOf_ok ⟨pureE_ok tie_two_faults_page, pureE_ok tie_two_faults_of, pureE_ok tie_word_Zext, pureE_ok tie_pte_May, pureE_ok tie_two_join, pureE_ok tie_pte_Frame, trivial⟩ ⟨tieB_walk_Through, tieB_two_reader_entry, trivial⟩) mixed (g := 27) (fn := Try.f27) (c := Try.f27.body.getD .skip) (by kernel_rfl) (by kernel_rfl) (by kernel_rfl) (Lp := noBlocks) (fl := 70) (fun _ => allBlocks_no _)
end Go.X.M

set_option maxRecDepth 100000
set_option linter.unusedVariables false
namespace Go.X.M
open Go Go.X Go.Proofs
theorem tieR_two_Translate : ModelOk Try.prog R_two_Translate.g R_two_Translate.M :=
  inlR_ok (E := E_two_Translate) (envOf_ok ⟨pureE_ok tie_two_faults_page, pureE_ok tie_two_faults_guest, pureE_ok tie_two_faults_of, ⟨tieR_two_Ask, fun _ _ _ _ => rfl⟩, ⟨tieR_two_first, fun _ _ _ _ => rfl⟩, ⟨tieR_two_second, fun _ _ _ _ => rfl⟩, trivial⟩ trivial) mixed (g := 13) (fn := Try.f13) (c := Try.f13.body.getD .skip) (by kernel_rfl) (by kernel_rfl) (by kernel_rfl) (Lp := noBlocks) (fl := 70) (fun _ => allBlocks_no _)
end Go.X.M

set_option maxRecDepth 100000
set_option linter.unusedVariables false
namespace Go.X.M
open Go Go.X Go.Proofs
theorem tieR_access_Do : ModelOk Try.prog R_access_Do.g R_access_Do.M :=
  inlR_ok (E := E_access_Do) (envOf_ok ⟨pureE_ok tie_access_Aligned, ⟨tieR_two_Translate, fun _ _ _ _ => rfl⟩, ⟨tieR_bus_Bus_Mem, fun _ _ _ _ => rfl⟩, trivial⟩ ⟨tieB_access_At, trivial⟩) mixed (g := 6) (fn := Try.f6) (c := Try.f6.body.getD .skip) (by kernel_rfl) (by kernel_rfl) (by kernel_rfl) (Lp := noBlocks) (fl := 70) (fun _ => allBlocks_no _)
theorem tieB_access_Do : BModelOk Try.prog B_access_Do.g B_access_Do.M :=
  splitIM_ok (inl_ok (E := E_access_Do) (envOf_ok ⟨pureE_ok tie_access_Aligned, ⟨tieR_two_Translate, fun _ _ _ _ => rfl⟩, ⟨tieR_bus_Bus_Mem, fun _ _ _ _ => rfl⟩, trivial⟩ ⟨tieB_access_At, trivial⟩) mixed (g := 6) (fn := Try.f6) (c := Try.f6.body.getD .skip) (by kernel_rfl) (by kernel_rfl) (by kernel_rfl) (Lp := noBlocks) (fl := 70) (fun _ => allBlocks_no _))
theorem tieB_access_runnable : BModelOk Try.prog B_access_runnable.g B_access_runnable.M :=
  inl_ok (E := E_access_runnable) (envOf_ok ⟨pureE_ok tie_access_Aligned, pureE_ok tie_alu_Extend, pureE_ok tie_access_sort, ⟨tieR_two_Translate, fun _ _ _ _ => rfl⟩, ⟨tieR_bus_Bus_Mem, fun _ _ _ _ => rfl⟩, trivial⟩ ⟨tieB_access_At, trivial⟩) mixed (g := 19) (fn := Try.f19) (c := Try.f19.body.getD .skip) (by kernel_rfl) (by kernel_rfl) (by kernel_rfl) (Lp := noBlocks) (fl := 70) (fun _ => allBlocks_no _)
end Go.X.M

set_option maxRecDepth 100000
set_option linter.unusedVariables false
namespace Go.X.M
open Go Go.X Go.Proofs
theorem tieB_access_Insn : BModelOk Try.prog B_access_Insn.g B_access_Insn.M :=
  inl_ok (E := E_access_Insn) (envOf_ok ⟨pureE_ok tie_insn_Class, pureE_ok tie_insn_Is, pureE_ok tie_insn_Size, pureE_ok tie_alu_Extend, ⟨tieR_access_Do, fun _ _ _ _ => rfl⟩, ⟨tieR_csr_Bit, fun _ _ _ _ => rfl⟩, trivial⟩ ⟨tieB_access_Do, tieB_access_runnable, trivial⟩) mixed (g := 9) (fn := Try.f9) (c := Try.f9.body.getD .skip) (by kernel_rfl) (by kernel_rfl) (by kernel_rfl) (Lp := noBlocks) (fl := 70) (fun _ => allBlocks_no _)
theorem tieB_access_Word : BModelOk Try.prog B_access_Word.g B_access_Word.M :=
  inl_ok (E := E_access_Word) (envOf_ok ⟨⟨tieR_access_Do, fun _ _ _ _ => rfl⟩, trivial⟩ ⟨tieB_access_Do, trivial⟩) mixed (g := 10) (fn := Try.f10) (c := Try.f10.body.getD .skip) (by kernel_rfl) (by kernel_rfl) (by kernel_rfl) (Lp := noBlocks) (fl := 70) (fun _ => allBlocks_no _)
end Go.X.M

set_option maxRecDepth 100000
set_option linter.unusedVariables false
namespace Go.X.M
open Go Go.X Go.Proofs
theorem eval_sallyportlaw17_known  : collapse (fnT (envOf Try.prog 999999 [R_access_Do] [B_bus_New, B_access_Do, B_access_Insn, B_access_Word]) Try.f4 (Try.f4.body.getD .skip) noBlocks 70 [] (fun _ => none) 0) = some (nd_sallyportlaw17_known , SV.ev (V.sc (SC.bool false true))) := by kernel_rfl
theorem tie_sallyportlaw17_known : ModelOk Try.prog 4 (pureM F_sallyportlaw17_known) :=
  pure_ok (E := envOf Try.prog 999999 [R_access_Do] [B_bus_New, B_access_Do, B_access_Insn, B_access_Word]) (envOf_ok ⟨⟨tieR_access_Do, fun _ _ _ _ => rfl⟩, trivial⟩ ⟨tieB_bus_New, tieB_access_Do, tieB_access_Insn, tieB_access_Word, trivial⟩) mixed (g := 4) (fn := Try.f4) (c := Try.f4.body.getD .skip) (by kernel_rfl) (by kernel_rfl) (by kernel_rfl) (Lp := noBlocks) (fl := 70) (fun _ => allBlocks_no _) (by
    intro args ns sv h
    unfold F_sallyportlaw17_known at h
    split at h
    · simp only [Option.some.injEq, Prod.mk.injEq] at h
      obtain ⟨rfl, rfl⟩ := h
      skip
      refine ⟨_, _, _, ?_, ?_, ?_, ?_, eval_sallyportlaw17_known , fun hp => ⟨hp _ List.mem_cons_self, sub_erase rfl⟩⟩
      · intro ρ; rfl
      · exact Nat.le_of_ble_eq_true rfl
      · rfl
      · rfl
    · cases h)
end Go.X.M

set_option maxRecDepth 100000
set_option linter.unusedVariables false
namespace Go.X.M
open Go Go.X Go.Proofs
theorem tieB_sallyportlaw17_AccessPlain : BModelOk Try.prog B_sallyportlaw17_AccessPlain.g B_sallyportlaw17_AccessPlain.M :=
  inl_ok (E := E_sallyportlaw17_AccessPlain) (envOf_ok ⟨pureE_ok tie_sallyportlaw17_known, pureE_ok tie_sallyportref1_Zext, ⟨tieR_access_Do, fun _ _ _ _ => rfl⟩, ⟨tieR_bus_Bus_IsDevice, fun _ _ _ _ => rfl⟩, trivial⟩ ⟨tieB_bus_New, tieB_access_Do, trivial⟩) mixed (g := 3) (fn := Try.f3) (c := Try.f3.body.getD .skip) (by kernel_rfl) (by kernel_rfl) (by kernel_rfl) (Lp := noBlocks) (fl := 70) (fun _ => allBlocks_no _)
end Go.X.M
