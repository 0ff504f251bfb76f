import Derived.Test.YtbblenohgednjaaProg
import Derived.Test.YtbblenohgednjaaX25
import Derived.Test.YtbblenohgednjaaMods
/- The functions that are walked where they are called: definitions, printed by program. -/
set_option linter.all false
namespace Go.X.M
open Go Go.X Go.Proofs
noncomputable def E_bus_Bus_IsDevice : Env := envOf Try.prog 999999 [] []
noncomputable def R_bus_Bus_IsDevice : Entry := inlRE E_bus_Bus_IsDevice 8 Try.f8
noncomputable def E_bus_Bus_Mem : Env := envOf Try.prog 999999 [] []
noncomputable def R_bus_Bus_Mem : Entry := inlRE E_bus_Bus_Mem 14 Try.f14
noncomputable def E_pte_May_1 : Env := envOf Try.prog 999999 [] []
noncomputable def R_pte_May_1 : Entry := inlRE E_pte_May_1 59 Try.f59
noncomputable def E_bus_Bus_port : Env := envOf Try.prog 999999 [] []
noncomputable def B0_bus_Bus_port : BEntry := inlE E_bus_Bus_port 61 Try.f61
noncomputable def B_bus_Bus_port : BEntry := ⟨61, splitUM B0_bus_Bus_port.M 1 6⟩
noncomputable def B_sync_atomic_LoadUint64 : BEntry := ⟨64, atomLoad⟩
noncomputable def E_mem_New : Env := envOf Try.prog 999999 [] []
noncomputable def B_mem_New : BEntry := inlE E_mem_New 11 Try.f11
end Go.X.M

set_option linter.all false
namespace Go.X.M
open Go Go.X Go.Proofs
noncomputable def E_bus_New : Env := envOf Try.prog 999999 [] [B_mem_New]
noncomputable def B_bus_New : BEntry := inlE E_bus_New 5 Try.f5
noncomputable def E_bus_Bus_console : Env := envOf Try.prog 999999 [] [B_bus_Bus_port]
noncomputable def B_bus_Bus_console : BEntry := inlE E_bus_Bus_console 47 Try.f47
noncomputable def E_mem_Memory_Write : Env := envOf Try.prog 999999 [pureE 62 F_mem_check, pureE 63 F_word_Bytes] []
noncomputable def B_mem_Memory_Write : BEntry := inlE E_mem_Memory_Write 48 Try.f48
noncomputable def E_sync_atomic_Uint64_Load : Env := envOf Try.prog 999999 [] [B_sync_atomic_LoadUint64]
noncomputable def B_sync_atomic_Uint64_Load : BEntry := inlE E_sync_atomic_Uint64_Load 49 Try.f49
noncomputable def E_mem_Memory_Read : Env := envOf Try.prog 999999 [pureE 62 F_mem_check, pureE 65 F_word_Get] []
noncomputable def R_mem_Memory_Read : Entry := inlRE E_mem_Memory_Read 50 Try.f50
end Go.X.M

set_option linter.all false
namespace Go.X.M
open Go Go.X Go.Proofs
noncomputable def E_bus_Bus_Write : Env := envOf Try.prog 999999 [] [B_bus_Bus_console, B_mem_Memory_Write]
noncomputable def B_bus_Bus_Write : BEntry := inlE E_bus_Bus_Write 30 Try.f30
noncomputable def E_bus_Bus_Read : Env := envOf Try.prog 999999 [R_mem_Memory_Read] [B_bus_Bus_console, B_sync_atomic_Uint64_Load]
noncomputable def B_bus_Bus_Read : BEntry := inlE E_bus_Bus_Read 31 Try.f31
noncomputable def E_walk_Entry : Env := envOf Try.prog 999999 [R_mem_Memory_Read] []
noncomputable def R_walk_Entry : Entry := inlRE E_walk_Entry 58 Try.f58
noncomputable def E_csr_Bit : Env := envOf Try.prog 999999 [pureE 34 F_word_Bits] []
noncomputable def R_csr_Bit : Entry := inlRE E_csr_Bit 18 Try.f18
end Go.X.M

set_option linter.all false
namespace Go.X.M
open Go Go.X Go.Proofs
noncomputable def E_access_At : Env := envOf Try.prog 999999 [pureE 22 F_access_Bad, R_bus_Bus_IsDevice] [B_bus_Bus_Write, B_bus_Bus_Read]
noncomputable def B_access_At : BEntry := inlE E_access_At 15 Try.f15
noncomputable def E_walk_Walk_1 : Env := envOf Try.prog 999999 [R_walk_Entry] []
noncomputable def R_walk_Walk_1 : Entry := inlRE E_walk_Walk_1 60 Try.f60
noncomputable def E_two_on : Env := envOf Try.prog 999999 [pureE 34 F_word_Bits, R_csr_Bit] []
noncomputable def R_two_on : Entry := inlRE E_two_on 38 Try.f38
end Go.X.M

set_option linter.all false
namespace Go.X.M
open Go Go.X Go.Proofs
noncomputable def E_walk_Through : Env := envOf Try.prog 999999 [pureE 34 F_word_Bits, pureE 44 F_pte_Frame, pureE 55 F_pte_Is, pureE 56 F_pte_Leaf, pureE 57 F_word_Set, R_pte_May_1, R_walk_Walk_1] []
noncomputable def B_walk_Through : BEntry := inlE E_walk_Through 40 Try.f40
noncomputable def E_two_Ask : Env := envOf Try.prog 999999 [R_csr_Bit, R_two_on] []
noncomputable def R_two_Ask : Entry := inlRE E_two_Ask 24 Try.f24
end Go.X.M

set_option linter.all false
namespace Go.X.M
open Go Go.X Go.Proofs
noncomputable def E_walk_Walk : Env := envOf Try.prog 999999 [R_walk_Walk_1] [B_walk_Through]
noncomputable def R_walk_Walk : Entry := inlRE E_walk_Walk 45 Try.f45
end Go.X.M

set_option linter.all false
namespace Go.X.M
open Go Go.X Go.Proofs
noncomputable def E_two_second : Env := envOf Try.prog 999999 [pureE 36 F_word_Zext, pureE 42 F_pte_May, pureE 43 F_two_join, pureE 44 F_pte_Frame, R_walk_Walk] []
noncomputable def R_two_second : Entry := inlRE E_two_second 28 Try.f28
end Go.X.M

set_option linter.all false
namespace Go.X.M
open Go Go.X Go.Proofs
noncomputable def E_two_reader_entry : Env := envOf Try.prog 999999 [R_two_second, R_walk_Entry] []
noncomputable def B_two_reader_entry : BEntry := inlE E_two_reader_entry 41 Try.f41
end Go.X.M

set_option linter.all false
namespace Go.X.M
open Go Go.X Go.Proofs
noncomputable def E_two_first : Env := envOf Try.prog 999999 [pureE 25 F_two_faults_page, pureE 29 F_two_faults_of, pureE 36 F_word_Zext, pureE 42 F_pte_May, pureE 43 F_two_join, pureE 44 F_pte_Frame] [B_walk_Through, B_two_reader_entry]
noncomputable def R_two_first : Entry := inlRE E_two_first 27 Try.f27
end Go.X.M

set_option linter.all false
namespace Go.X.M
open Go Go.X Go.Proofs
noncomputable def E_two_Translate : Env := envOf Try.prog 999999 [pureE 25 F_two_faults_page, pureE 26 F_two_faults_guest, pureE 29 F_two_faults_of, R_two_Ask, R_two_first, R_two_second] []
noncomputable def R_two_Translate : Entry := inlRE E_two_Translate 13 Try.f13
end Go.X.M

set_option linter.all false
namespace Go.X.M
open Go Go.X Go.Proofs
noncomputable def E_access_Do : Env := envOf Try.prog 999999 [pureE 12 F_access_Aligned, R_two_Translate, R_bus_Bus_Mem] [B_access_At]
noncomputable def R_access_Do : Entry := inlRE E_access_Do 6 Try.f6
noncomputable def B0_access_Do : BEntry := inlE E_access_Do 6 Try.f6
noncomputable def B_access_Do : BEntry := ⟨6, splitIM B0_access_Do.M 3 [1,2,4,8]⟩
noncomputable def E_access_runnable : Env := envOf Try.prog 999999 [pureE 12 F_access_Aligned, pureE 21 F_alu_Extend, pureE 35 F_access_sort, R_two_Translate, R_bus_Bus_Mem] [B_access_At]
noncomputable def B_access_runnable : BEntry := inlE E_access_runnable 19 Try.f19
end Go.X.M

set_option linter.all false
namespace Go.X.M
open Go Go.X Go.Proofs
noncomputable def E_access_Insn : Env := envOf Try.prog 999999 [pureE 16 F_insn_Class, pureE 17 F_insn_Is, pureE 20 F_insn_Size, pureE 21 F_alu_Extend, R_access_Do, R_csr_Bit] [B_access_Do, B_access_runnable]
noncomputable def B_access_Insn : BEntry := inlE E_access_Insn 9 Try.f9
noncomputable def E_access_Word : Env := envOf Try.prog 999999 [R_access_Do] [B_access_Do]
noncomputable def B_access_Word : BEntry := inlE E_access_Word 10 Try.f10
end Go.X.M

set_option linter.all false
namespace Go.X.M
open Go Go.X Go.Proofs
end Go.X.M

set_option linter.all false
namespace Go.X.M
open Go Go.X Go.Proofs
noncomputable def E_sallyportlaw17_AccessPlain : Env := envOf Try.prog 999999 [pureE 4 F_sallyportlaw17_known, pureE 7 F_sallyportref1_Zext, R_access_Do, R_bus_Bus_IsDevice] [B_bus_New, B_access_Do]
noncomputable def B_sallyportlaw17_AccessPlain : BEntry := inlE E_sallyportlaw17_AccessPlain 3 Try.f3
end Go.X.M
