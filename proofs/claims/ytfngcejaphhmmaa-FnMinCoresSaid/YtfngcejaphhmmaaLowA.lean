/- Lowered code of Go functions, printed by a program of this session (lower.py), and that it is the loaded code: checked by the kernel. -/
import Derived.Test.YtfngcejaphhmmaaProg
import Derived.Test.YtfngcejaphhmmaaAbsY
import Derived.KernelRfl
namespace Go.Proofs.Ytfngcejaphhmmaa
open Go.Abs
set_option maxRecDepth 100000

theorem mixed : Try.prog.follows .mixedOrders = true := by kernel_rfl
abbrev n_laws_FnTable : Nat := 3
abbrev n_laws_FnTableEdf : Nat := 4
abbrev n_laws_FnFirstFit : Nat := 5
abbrev n_laws_FnMinCores : Nat := 6
abbrev n_laws_FnMoreCores : Nat := 7
abbrev n_laws_FnPartition : Nat := 8
abbrev n_laws_FnPartitionSafe : Nat := 9
abbrev n_laws_FnWcetTight : Nat := 10
abbrev n_spec_DrawTable : Nat := 11
abbrev n_impl_Table : Nat := 12
abbrev n_spec_Table : Nat := 13
abbrev n_laws_sameInts : Nat := 14
abbrev n_impl_EdfFeasible : Nat := 15
abbrev n_impl_Hyperperiod : Nat := 16
abbrev n_laws_alive : Nat := 17
abbrev n_impl_TableValid : Nat := 18
abbrev n_impl_Synchronous : Nat := 19
abbrev n_impl_RunEdf : Nat := 20
abbrev n_spec_DrawFirstFit : Nat := 21
abbrev n_impl_FirstFit : Nat := 22
abbrev n_spec_FirstFit : Nat := 23
abbrev n_impl_AssignmentFeasible : Nat := 24
abbrev n_spec_DrawMinCores : Nat := 25
abbrev n_impl_MinCores : Nat := 26
abbrev n_spec_MinCores : Nat := 27
abbrev n_spec_SetValid : Nat := 28
abbrev n_impl_Utilization : Nat := 29
abbrev n_impl_Partition : Nat := 30
abbrev n_impl_SetValid : Nat := 31
abbrev n_laws_without : Nat := 32
abbrev n_spec_DrawPartition : Nat := 33
abbrev n_spec_Partition : Nat := 34
abbrev n_impl_CoreTasks : Nat := 35
abbrev n_impl_Missed : Nat := 36
abbrev n_spec_DrawWorstChoices : Nat := 37
abbrev n_impl_WorstChoices : Nat := 38
abbrev n_spec_WorstChoices : Nat := 39
abbrev n_spec_ProgramValid : Nat := 40
abbrev n_impl_RunProgram : Nat := 41
abbrev n_impl_Wcet : Nat := 42
abbrev n_spec_Wcet : Nat := 43
abbrev n_impl_Bcet : Nat := 44
abbrev n_spec_Bcet : Nat := 45
abbrev n_spec_l20Set : Nat := 46
abbrev n_spec_l20Open : Nat := 47
abbrev n_impl_feasible : Nat := 48
abbrev n_impl_hyper : Nat := 49
abbrev n_impl_none : Nat := 50
abbrev n_spec_l1Hyper : Nat := 51
abbrev n_spec_l2Edf : Nat := 52
abbrev n_spec_l13Due : Nat := 53
abbrev n_impl_TaskValid : Nat := 54
abbrev n_impl_in : Nat := 55
abbrev n_slices_Clip_impl_Job : Nat := 56
abbrev n_impl_JobsLegal : Nat := 57
abbrev n_impl_simulate : Nat := 58
abbrev n_impl_edf : Nat := 59
abbrev n_spec_l20Cores : Nat := 60
abbrev n_impl_isCores : Nat := 61
abbrev n_impl_onCore : Nat := 62
abbrev n_spec_l1In : Nat := 63
abbrev n_spec_l7First : Nat := 64
abbrev n_impl_AssignmentValid : Nat := 65
abbrev n_spec_l7Search : Nat := 66
abbrev n_spec_TaskValid : Nat := 67
abbrev n_impl_reduced : Nat := 68
abbrev n_impl_load : Nat := 69
abbrev n_impl_search : Nat := 70
abbrev n_slices_ContainsFunc_impl_Task : Nat := 71
abbrev n_impl_SetValid_1 : Nat := 72
abbrev n_impl_missed : Nat := 73
abbrev n_spec_l20Prog : Nat := 74
abbrev n_impl_ProgramValid : Nat := 75
abbrev n_impl_worst : Nat := 76
abbrev n_impl_execute : Nat := 77
abbrev n_impl_WorstChoices_1 : Nat := 78
abbrev n_impl_clone_int : Nat := 79
abbrev n_spec_l8Worst : Nat := 80
abbrev n_spec_l8Costs : Nat := 81
abbrev n_spec_l8Node : Nat := 82
abbrev n_impl_RunProgram_1 : Nat := 83
abbrev n_spec_l20Rd_pick : Nat := 84
abbrev n_spec_l20Task : Nat := 85
abbrev n_spec_l20Rd_odd : Nat := 86
abbrev n_impl_FirstOverload : Nat := 87
abbrev n_impl_lcm : Nat := 88
abbrev n_slices_Repeat_int : Nat := 89
abbrev n_spec_l1Gcd : Nat := 90
abbrev n_spec_l2Overload : Nat := 91
abbrev n_impl_ordered : Nat := 92
abbrev n_impl_JobsLegal_1 : Nat := 93
abbrev n_impl_spaced : Nat := 94
abbrev n_impl_release : Nat := 95
abbrev n_impl_JobsLegal_2 : Nat := 96
abbrev n_slices_ContainsFunc_impl_Job : Nat := 97
abbrev n_impl_JobsLegal_3 : Nat := 98
abbrev n_impl_newMachine : Nat := 99
abbrev n_impl_machine_best : Nat := 100
abbrev n_impl_machine_deadline : Nat := 101
abbrev n_impl_machine_any : Nat := 102
abbrev n_slices_Clip_impl_Task : Nat := 103
abbrev n_spec_l7On : Nat := 104
abbrev n_slices_ContainsFunc_int : Nat := 105
abbrev n_impl_AssignmentValid_1 : Nat := 106
abbrev n_impl_gcd : Nat := 107
abbrev n_slices_IndexFunc_impl_Task : Nat := 108
abbrev n_slices_Clip_int : Nat := 109
abbrev n_impl_nodeValid : Nat := 110
abbrev n_slices_Clone_int : Nat := 111
abbrev n_impl_demand : Nat := 112
abbrev n_math_bits_Mul : Nat := 113
abbrev n_spec_l2Demand : Nat := 114
abbrev n_slices_IndexFunc_impl_Job : Nat := 115
abbrev n_impl_machine_ready : Nat := 116
abbrev n_slices_IndexFunc_int : Nat := 117
abbrev n_math_bits_Mul32 : Nat := 118
abbrev n_math_bits_Mul64 : Nat := 119
abbrev ty_int : Nat := 3
abbrev ty_bool : Nat := 4
abbrev ty_uint8 : Nat := 5
abbrev ty_string : Nat := 9
abbrev ty_ptr_runtime_TypeAssertionError : Nat := 15
abbrev ty_ptr_runtime_PanicNilError : Nat := 16
abbrev ty_ptr_abi_Type : Nat := 17
abbrev ty_sl_uint8 : Nat := 22
abbrev ty_sl_impl_Task : Nat := 23
abbrev ty_sl_int : Nat := 25
abbrev ty_sl_impl_Job : Nat := 34
abbrev ty_impl_Schedule : Nat := 37
abbrev ty_impl_Task : Nat := 43
abbrev ty_impl_Fraction : Nat := 46
abbrev ty_sl_impl_Node : Nat := 52
abbrev ty_ptr_spec_l20Rd : Nat := 59
abbrev ty_impl_Job : Nat := 66
abbrev ty_impl_Node : Nat := 83
abbrev ty_spec_l20Rd : Nat := 92
abbrev ty_ptr_impl_machine : Nat := 100
abbrev ty_impl_machine : Nat := 103
abbrev ty_ptr_uint8 : Nat := 131

-- loop.example/deadlinescheduler/laws.FnTable
def c_laws_FnTable : LC := .seq (.ops [⟨some 2, none, .mv (.k (.b false))⟩])
    (.seq (.seq (.ops [⟨some 8, none, .mv (.t 0)⟩,
      ⟨some 9, none, .len (.t 8)⟩,
      ⟨some 10, none, .bin .gtr (.t 9) (.k (.i .i64 1048576))⟩])
    (.cond (.t 10) (.seq (.ops [⟨some 2, none, .mv (.k (.b true))⟩])
    (.ret))
    (.skip)))
    (.seq (.ops [⟨some 11, none, .mv (.t 0)⟩,
      ⟨some 12, none, .call (.k (.fn n_spec_DrawTable [] [])) [.t 11]⟩,
      ⟨some 3, none, .mv (.t 12)⟩])
    (.seq (.ops [⟨some 14, none, .mv (.t 3)⟩,
      ⟨some 15, none, .call (.k (.fn n_impl_Table [] [])) [.t 14]⟩,
      ⟨some 13, none, .mv (.t 15)⟩,
      ⟨some 16, none, .ext 0 (.t 13)⟩,
      ⟨some 17, none, .ext 1 (.t 13)⟩,
      ⟨some 4, none, .mv (.t 16)⟩,
      ⟨some 5, none, .mv (.t 17)⟩])
    (.seq (.ops [⟨some 19, none, .mv (.t 3)⟩,
      ⟨some 20, none, .call (.k (.fn n_spec_Table [] [])) [.t 19]⟩,
      ⟨some 18, none, .mv (.t 20)⟩,
      ⟨some 21, none, .ext 0 (.t 18)⟩,
      ⟨some 22, none, .ext 1 (.t 18)⟩,
      ⟨some 6, none, .mv (.t 21)⟩,
      ⟨some 7, none, .mv (.t 22)⟩])
    (.seq (.seq (.ops [⟨some 23, none, .mv (.t 4)⟩,
      ⟨some 24, none, .mv (.t 6)⟩,
      ⟨some 25, none, .call (.k (.fn n_laws_sameInts [] [])) [.t 23, .t 24]⟩,
      ⟨some 26, none, .not (.t 25)⟩,
      ⟨some 27, none, .mv (.t 26)⟩,
      ⟨some 28, (some (27, false)), .mv (.t 5)⟩,
      ⟨some 29, (some (27, false)), .mv (.t 7)⟩,
      ⟨some 30, (some (27, false)), .beq true (.t 28) (.t 29)⟩,
      ⟨some 31, none, .pick (.t 27) (.k (.b true)) (.t 30)⟩])
    (.cond (.t 31) (.seq (.ops [⟨some 2, none, .mv (.k (.b false))⟩])
    (.ret))
    (.skip)))
    (.seq (.seq (.ops [⟨some 32, none, .mv (.t 5)⟩,
      ⟨some 33, none, .not (.t 32)⟩])
    (.cond (.t 33) (.seq (.ops [⟨some 34, none, .mv (.t 4)⟩,
      ⟨some 35, none, .len (.t 34)⟩,
      ⟨some 36, none, .bin .eql (.t 35) (.k (.i .i64 0))⟩,
      ⟨some 37, none, .mv (.t 36)⟩,
      ⟨some 38, (some (37, true)), .mv (.t 3)⟩,
      ⟨some 39, (some (37, true)), .call (.k (.fn n_impl_EdfFeasible [] [])) [.t 38]⟩,
      ⟨some 40, (some (37, true)), .not (.t 39)⟩,
      ⟨some 41, (some (37, true)), .mv (.t 40)⟩,
      ⟨some 42, (some (41, false)), .mv (.t 3)⟩,
      ⟨some 43, (some (41, false)), .call (.k (.fn n_impl_Hyperperiod [] [])) [.t 42]⟩,
      ⟨some 44, (some (41, false)), .bin .gtr (.t 43) (.k (.i .i64 720))⟩,
      ⟨some 45, (some (37, true)), .pick (.t 41) (.k (.b true)) (.t 44)⟩,
      ⟨some 46, none, .pick (.t 37) (.t 45) (.k (.b false))⟩,
      ⟨some 47, none, .mv (.t 46)⟩,
      ⟨some 48, (some (47, true)), .call (.k (.fn n_laws_alive [] [])) []⟩,
      ⟨some 49, none, .pick (.t 47) (.t 48) (.k (.b false))⟩,
      ⟨some 2, none, .mv (.t 49)⟩])
    (.ret))
    (.skip)))
    (.seq (.ops [⟨some 50, none, .mv (.t 3)⟩,
      ⟨some 51, none, .mv (.t 4)⟩,
      ⟨some 52, none, .call (.k (.fn n_impl_TableValid [] [])) [.t 50, .t 51]⟩,
      ⟨some 53, none, .mv (.t 52)⟩,
      ⟨some 54, (some (53, true)), .mv (.t 4)⟩,
      ⟨some 55, (some (53, true)), .len (.t 54)⟩,
      ⟨some 56, (some (53, true)), .mv (.t 3)⟩,
      ⟨some 57, (some (53, true)), .call (.k (.fn n_impl_Hyperperiod [] [])) [.t 56]⟩,
      ⟨some 58, (some (53, true)), .bin .eql (.t 55) (.t 57)⟩,
      ⟨some 59, none, .pick (.t 53) (.t 58) (.k (.b false))⟩,
      ⟨some 2, none, .mv (.t 59)⟩])
    (.ret))))))))
theorem k_laws_FnTable : chkF Try.prog Try.f3 60 c_laws_FnTable [.t 2] = true := by kernel_rfl
theorem call_laws_FnTable {args : List AV} {σ : List AB} {K : AV → List AB → Prop} (hn : args.length ≤ 60) (hw : wpC Try.prog σ.length 60 c_laws_FnTable (retP σ.length [.t 2] K) ⟨initT 0 args, σ⟩) : CallWp Try.prog n_laws_FnTable args σ K := call_fn mixed Try.func3 k_laws_FnTable hn hw

-- loop.example/deadlinescheduler/laws.FnTableEdf
-- region 15 draws, 12 of 12 first
-- l0_laws_FnTableEdf: live at the head: 4 9 10 47 48
def l0_laws_FnTableEdf : LC := .seq (.seq (.ops [⟨some 42, none, .mv (.t 10)⟩,
      ⟨some 43, none, .mv (.t 4)⟩,
      ⟨some 44, none, .len (.t 43)⟩,
      ⟨some 45, none, .bin .lss (.t 42) (.t 44)⟩,
      ⟨some 46, none, .mv (.t 45)⟩,
      ⟨some 47, (some (46, true)), .mv (.t 10)⟩,
      ⟨some 48, (some (46, true)), .bin .lss (.t 47) (.k (.i .i64 108))⟩,
      ⟨some 49, none, .pick (.t 46) (.t 48) (.k (.b false))⟩])
    (.cond (.t 49) (.skip)
    (.exit 0)))
    (.seq (.block 1 (.seq (.draw 12 [⟨some 52, none, .mv (.t 4)⟩,
      ⟨some 53, none, .mv (.t 10)⟩,
      ⟨some 54, none, .ia 1 (.t 52) (.t 53)⟩,
      ⟨some 55, none, .ld (.t 54)⟩,
      ⟨some 56, none, .bin .lss (.t 55) (.k (.i .i64 0))⟩,
      ⟨some 57, none, .fa 0 (.t 9)⟩,
      ⟨some 58, none, .ld (.t 57)⟩,
      ⟨some 59, none, .mv (.t 10)⟩,
      ⟨some 60, none, .ia 1 (.t 58) (.t 59)⟩,
      ⟨some 61, none, .ld (.t 60)⟩,
      ⟨some 62, none, .bin .lss (.t 61) (.k (.i .i64 0))⟩,
      ⟨some 63, none, .beq true (.t 56) (.t 62)⟩])
    (.cond (.t 63) (.seq (.ops [⟨some 2, none, .mv (.k (.b false))⟩])
    (.ret))
    (.skip))))
    (.ops [⟨some 50, none, .mv (.t 10)⟩,
      ⟨some 51, none, .bin .add (.t 50) (.k (.i .i64 1))⟩,
      ⟨some 10, none, .mv (.t 51)⟩]))
def c_laws_FnTableEdf : LC := .seq (.ops [⟨some 2, none, .mv (.k (.b false))⟩])
    (.seq (.seq (.ops [⟨some 11, none, .mv (.t 0)⟩,
      ⟨some 12, none, .len (.t 11)⟩,
      ⟨some 13, none, .bin .gtr (.t 12) (.k (.i .i64 1048576))⟩])
    (.cond (.t 13) (.seq (.ops [⟨some 2, none, .mv (.k (.b true))⟩])
    (.ret))
    (.skip)))
    (.seq (.ops [⟨some 14, none, .mv (.t 0)⟩,
      ⟨some 15, none, .call (.k (.fn n_spec_DrawTable [] [])) [.t 14]⟩,
      ⟨some 3, none, .mv (.t 15)⟩])
    (.seq (.ops [⟨some 17, none, .mv (.t 3)⟩,
      ⟨some 18, none, .call (.k (.fn n_impl_Table [] [])) [.t 17]⟩,
      ⟨some 16, none, .mv (.t 18)⟩,
      ⟨some 19, none, .ext 0 (.t 16)⟩,
      ⟨some 20, none, .ext 1 (.t 16)⟩,
      ⟨some 4, none, .mv (.t 19)⟩,
      ⟨some 5, none, .mv (.t 20)⟩])
    (.seq (.ops [⟨some 22, none, .mv (.t 3)⟩,
      ⟨some 23, none, .call (.k (.fn n_spec_Table [] [])) [.t 22]⟩,
      ⟨some 21, none, .mv (.t 23)⟩,
      ⟨some 24, none, .ext 0 (.t 21)⟩,
      ⟨some 25, none, .ext 1 (.t 21)⟩,
      ⟨some 6, none, .mv (.t 24)⟩,
      ⟨some 7, none, .mv (.t 25)⟩])
    (.seq (.seq (.ops [⟨some 26, none, .mv (.t 5)⟩,
      ⟨some 27, none, .mv (.t 7)⟩,
      ⟨some 28, none, .beq true (.t 26) (.t 27)⟩])
    (.cond (.t 28) (.seq (.ops [⟨some 2, none, .mv (.k (.b false))⟩])
    (.ret))
    (.skip)))
    (.seq (.ops [⟨some 29, none, .mv (.t 3)⟩,
      ⟨some 30, none, .call (.k (.fn n_impl_Synchronous [] [])) [.t 29, .k (.i .i64 120)]⟩,
      ⟨some 8, none, .mv (.t 30)⟩])
    (.seq (.seq (.ops [⟨some 31, none, .mv (.t 5)⟩,
      ⟨some 32, none, .not (.t 31)⟩,
      ⟨some 33, none, .mv (.t 32)⟩,
      ⟨some 34, (some (33, false)), .mv (.t 8)⟩,
      ⟨some 35, (some (33, false)), .len (.t 34)⟩,
      ⟨some 36, (some (33, false)), .bin .eql (.t 35) (.k (.i .i64 60))⟩,
      ⟨some 37, none, .pick (.t 33) (.k (.b true)) (.t 36)⟩])
    (.cond (.t 37) (.seq (.ops [⟨some 38, none, .call (.k (.fn n_laws_alive [] [])) []⟩,
      ⟨some 2, none, .mv (.t 38)⟩])
    (.ret))
    (.skip)))
    (.seq (.ops [⟨some 39, none, .mv (.t 3)⟩,
      ⟨some 40, none, .mv (.t 8)⟩,
      ⟨some 41, none, .call (.k (.fn n_impl_RunEdf [] [])) [.t 39, .t 40]⟩,
      ⟨some 9, none, .alloc ty_impl_Schedule [.sn, .sn]⟩,
      ⟨none, none, .st 2 (.t 9) (.t 41)⟩])
    (.seq (.seq (.ops [⟨some 10, none, .mv (.k (.i .i64 0))⟩])
    (.block 0 (.loop l0_laws_FnTableEdf)))
    (.seq (.ops [⟨some 64, none, .fa 0 (.t 9)⟩,
      ⟨some 65, none, .ld (.t 64)⟩,
      ⟨some 66, none, .len (.t 65)⟩,
      ⟨some 67, none, .bin .eql (.t 66) (.k (.i .i64 120))⟩,
      ⟨some 2, none, .mv (.t 67)⟩])
    (.ret)))))))))))
theorem k_laws_FnTableEdf : chkF Try.prog Try.f4 68 c_laws_FnTableEdf [.t 2] = true := by kernel_rfl
theorem call_laws_FnTableEdf {args : List AV} {σ : List AB} {K : AV → List AB → Prop} (hn : args.length ≤ 68) (hw : wpC Try.prog σ.length 68 c_laws_FnTableEdf (retP σ.length [.t 2] K) ⟨initT 0 args, σ⟩) : CallWp Try.prog n_laws_FnTableEdf args σ K := call_fn mixed Try.func4 k_laws_FnTableEdf hn hw

-- loop.example/deadlinescheduler/laws.FnFirstFit
-- l2_laws_FnFirstFit: live at the head: 3 4 5 11
-- l1_laws_FnFirstFit: live at the head: 3 4 5 11 12
-- l0_laws_FnFirstFit: live at the head: 3 4 5 11 12 13 14
def l0_laws_FnFirstFit : LC := .seq (.seq (.ops [⟨some 76, none, .mv (.t 14)⟩,
      ⟨some 77, none, .mv (.t 11)⟩,
      ⟨some 78, none, .bin .lss (.t 76) (.t 77)⟩])
    (.cond (.t 78) (.skip)
    (.exit 4)))
    (.seq (.block 5 (.seq (.ops [⟨some 81, none, .mv (.t 5)⟩,
      ⟨some 82, none, .mv (.t 14)⟩,
      ⟨some 83, none, .ia 1 (.t 81) (.t 82)⟩,
      ⟨some 84, none, .ld (.t 83)⟩,
      ⟨some 85, none, .mv (.t 12)⟩,
      ⟨some 86, none, .bin .eql (.t 84) (.t 85)⟩])
    (.cond (.t 86) (.ops [⟨some 87, none, .mv (.t 13)⟩,
      ⟨some 88, none, .mv (.t 3)⟩,
      ⟨some 89, none, .mv (.t 14)⟩,
      ⟨some 90, none, .ia 3 (.t 88) (.t 89)⟩,
      ⟨some 91, none, .ldn 3 (.t 90)⟩,
      ⟨some 92, none, .bsl ty_impl_Task [.i .i64 0, .i .i64 0, .i .i64 0] 1 [(0, 3, .t 91)]⟩,
      ⟨some 93, none, .app ty_impl_Task 3 24 (.t 87) (.t 92)⟩,
      ⟨some 13, none, .mv (.t 93)⟩])
    (.skip))))
    (.ops [⟨some 79, none, .mv (.t 14)⟩,
      ⟨some 80, none, .bin .add (.t 79) (.k (.i .i64 1))⟩,
      ⟨some 14, none, .mv (.t 80)⟩]))
def l1_laws_FnFirstFit : LC := .seq (.seq (.ops [⟨some 67, none, .mv (.t 12)⟩,
      ⟨some 68, none, .mv (.t 5)⟩,
      ⟨some 69, none, .mv (.t 11)⟩,
      ⟨some 70, none, .ia 1 (.t 68) (.t 69)⟩,
      ⟨some 71, none, .ld (.t 70)⟩,
      ⟨some 72, none, .bin .lss (.t 67) (.t 71)⟩])
    (.cond (.t 72) (.skip)
    (.exit 2)))
    (.seq (.block 3 (.seq (.ops [⟨some 75, none, .bsl ty_impl_Task [.i .i64 0, .i .i64 0, .i .i64 0] 0 []⟩,
      ⟨some 13, none, .mv (.t 75)⟩])
    (.seq (.seq (.ops [⟨some 14, none, .mv (.k (.i .i64 0))⟩])
    (.block 4 (.loop l0_laws_FnFirstFit)))
    (.seq (.ops [⟨some 94, none, .mv (.t 13)⟩,
      ⟨some 95, none, .mv (.t 3)⟩,
      ⟨some 96, none, .mv (.t 11)⟩,
      ⟨some 97, none, .ia 3 (.t 95) (.t 96)⟩,
      ⟨some 98, none, .ldn 3 (.t 97)⟩,
      ⟨some 99, none, .bsl ty_impl_Task [.i .i64 0, .i .i64 0, .i .i64 0] 1 [(0, 3, .t 98)]⟩,
      ⟨some 100, none, .app ty_impl_Task 3 24 (.t 94) (.t 99)⟩,
      ⟨some 101, none, .call (.k (.fn n_impl_EdfFeasible [] [])) [.t 100]⟩])
    (.cond (.t 101) (.seq (.ops [⟨some 2, none, .mv (.k (.b false))⟩])
    (.ret))
    (.skip))))))
    (.ops [⟨some 73, none, .mv (.t 12)⟩,
      ⟨some 74, none, .bin .add (.t 73) (.k (.i .i64 1))⟩,
      ⟨some 12, none, .mv (.t 74)⟩]))
def l2_laws_FnFirstFit : LC := .seq (.seq (.ops [⟨some 61, none, .mv (.t 11)⟩,
      ⟨some 62, none, .mv (.t 3)⟩,
      ⟨some 63, none, .len (.t 62)⟩,
      ⟨some 64, none, .bin .lss (.t 61) (.t 63)⟩])
    (.cond (.t 64) (.skip)
    (.exit 0)))
    (.seq (.block 1 (.seq (.ops [⟨some 12, none, .mv (.k (.i .i64 0))⟩])
    (.block 2 (.loop l1_laws_FnFirstFit))))
    (.ops [⟨some 65, none, .mv (.t 11)⟩,
      ⟨some 66, none, .bin .add (.t 65) (.k (.i .i64 1))⟩,
      ⟨some 11, none, .mv (.t 66)⟩]))
def c_laws_FnFirstFit : LC := .seq (.ops [⟨some 2, none, .mv (.k (.b false))⟩])
    (.seq (.seq (.ops [⟨some 15, none, .mv (.t 0)⟩,
      ⟨some 16, none, .len (.t 15)⟩,
      ⟨some 17, none, .bin .gtr (.t 16) (.k (.i .i64 1048576))⟩])
    (.cond (.t 17) (.seq (.ops [⟨some 2, none, .mv (.k (.b true))⟩])
    (.ret))
    (.skip)))
    (.seq (.ops [⟨some 19, none, .mv (.t 0)⟩,
      ⟨some 20, none, .call (.k (.fn n_spec_DrawFirstFit [] [])) [.t 19]⟩,
      ⟨some 18, none, .mv (.t 20)⟩,
      ⟨some 21, none, .ext 0 (.t 18)⟩,
      ⟨some 22, none, .ext 1 (.t 18)⟩,
      ⟨some 3, none, .mv (.t 21)⟩,
      ⟨some 4, none, .mv (.t 22)⟩])
    (.seq (.ops [⟨some 24, none, .mv (.t 3)⟩,
      ⟨some 25, none, .mv (.t 4)⟩,
      ⟨some 26, none, .call (.k (.fn n_impl_FirstFit [] [])) [.t 24, .t 25]⟩,
      ⟨some 23, none, .mv (.t 26)⟩,
      ⟨some 27, none, .ext 0 (.t 23)⟩,
      ⟨some 28, none, .ext 1 (.t 23)⟩,
      ⟨some 5, none, .mv (.t 27)⟩,
      ⟨some 6, none, .mv (.t 28)⟩])
    (.seq (.ops [⟨some 30, none, .mv (.t 3)⟩,
      ⟨some 31, none, .mv (.t 4)⟩,
      ⟨some 32, none, .call (.k (.fn n_spec_FirstFit [] [])) [.t 30, .t 31]⟩,
      ⟨some 29, none, .mv (.t 32)⟩,
      ⟨some 33, none, .ext 0 (.t 29)⟩,
      ⟨some 34, none, .ext 1 (.t 29)⟩,
      ⟨some 7, none, .mv (.t 33)⟩,
      ⟨some 8, none, .mv (.t 34)⟩])
    (.seq (.seq (.ops [⟨some 35, none, .mv (.t 5)⟩,
      ⟨some 36, none, .mv (.t 7)⟩,
      ⟨some 37, none, .call (.k (.fn n_laws_sameInts [] [])) [.t 35, .t 36]⟩,
      ⟨some 38, none, .not (.t 37)⟩,
      ⟨some 39, none, .mv (.t 38)⟩,
      ⟨some 40, (some (39, false)), .mv (.t 6)⟩,
      ⟨some 41, (some (39, false)), .mv (.t 8)⟩,
      ⟨some 42, (some (39, false)), .beq true (.t 40) (.t 41)⟩,
      ⟨some 43, none, .pick (.t 39) (.k (.b true)) (.t 42)⟩])
    (.cond (.t 43) (.seq (.ops [⟨some 2, none, .mv (.k (.b false))⟩])
    (.ret))
    (.skip)))
    (.seq (.ops [⟨some 45, none, .mv (.t 3)⟩,
      ⟨some 46, none, .call (.k (.fn n_impl_FirstFit [] [])) [.t 45, .k (.i .i64 1)]⟩,
      ⟨some 44, none, .mv (.t 46)⟩,
      ⟨some 47, none, .ext 0 (.t 44)⟩,
      ⟨some 48, none, .ext 1 (.t 44)⟩,
      ⟨some 9, none, .mv (.t 47)⟩,
      ⟨some 10, none, .mv (.t 48)⟩])
    (.seq (.seq (.ops [⟨some 49, none, .mv (.t 10)⟩,
      ⟨some 50, none, .mv (.t 3)⟩,
      ⟨some 51, none, .call (.k (.fn n_impl_EdfFeasible [] [])) [.t 50]⟩,
      ⟨some 52, none, .beq true (.t 49) (.t 51)⟩])
    (.cond (.t 52) (.seq (.ops [⟨some 2, none, .mv (.k (.b false))⟩])
    (.ret))
    (.skip)))
    (.seq (.seq (.ops [⟨some 53, none, .mv (.t 6)⟩,
      ⟨some 54, none, .not (.t 53)⟩])
    (.cond (.t 54) (.seq (.ops [⟨some 55, none, .mv (.t 5)⟩,
      ⟨some 56, none, .len (.t 55)⟩,
      ⟨some 57, none, .bin .eql (.t 56) (.k (.i .i64 0))⟩,
      ⟨some 58, none, .mv (.t 57)⟩,
      ⟨some 59, (some (58, true)), .call (.k (.fn n_laws_alive [] [])) []⟩,
      ⟨some 60, none, .pick (.t 58) (.t 59) (.k (.b false))⟩,
      ⟨some 2, none, .mv (.t 60)⟩])
    (.ret))
    (.skip)))
    (.seq (.seq (.ops [⟨some 11, none, .mv (.k (.i .i64 0))⟩])
    (.block 0 (.loop l2_laws_FnFirstFit)))
    (.seq (.ops [⟨some 102, none, .mv (.t 3)⟩,
      ⟨some 103, none, .mv (.t 4)⟩,
      ⟨some 104, none, .mv (.t 5)⟩,
      ⟨some 105, none, .call (.k (.fn n_impl_AssignmentFeasible [] [])) [.t 102, .t 103, .t 104]⟩,
      ⟨some 2, none, .mv (.t 105)⟩])
    (.ret)))))))))))
theorem k_laws_FnFirstFit : chkF Try.prog Try.f5 106 c_laws_FnFirstFit [.t 2] = true := by kernel_rfl
theorem call_laws_FnFirstFit {args : List AV} {σ : List AB} {K : AV → List AB → Prop} (hn : args.length ≤ 106) (hw : wpC Try.prog σ.length 106 c_laws_FnFirstFit (retP σ.length [.t 2] K) ⟨initT 0 args, σ⟩) : CallWp Try.prog n_laws_FnFirstFit args σ K := call_fn mixed Try.func5 k_laws_FnFirstFit hn hw

-- loop.example/deadlinescheduler/laws.FnMinCores
def c_laws_FnMinCores : LC := .seq (.ops [⟨some 2, none, .mv (.k (.b false))⟩])
    (.seq (.seq (.ops [⟨some 10, none, .mv (.t 0)⟩,
      ⟨some 11, none, .len (.t 10)⟩,
      ⟨some 12, none, .bin .gtr (.t 11) (.k (.i .i64 1048576))⟩])
    (.cond (.t 12) (.seq (.ops [⟨some 2, none, .mv (.k (.b true))⟩])
    (.ret))
    (.skip)))
    (.seq (.ops [⟨some 13, none, .mv (.t 0)⟩,
      ⟨some 14, none, .call (.k (.fn n_spec_DrawMinCores [] [])) [.t 13]⟩,
      ⟨some 3, none, .mv (.t 14)⟩])
    (.seq (.ops [⟨some 15, none, .mv (.t 3)⟩,
      ⟨some 16, none, .call (.k (.fn n_impl_MinCores [] [])) [.t 15]⟩,
      ⟨some 4, none, .mv (.t 16)⟩])
    (.seq (.seq (.ops [⟨some 17, none, .mv (.t 4)⟩,
      ⟨some 18, none, .mv (.t 3)⟩,
      ⟨some 19, none, .call (.k (.fn n_spec_MinCores [] [])) [.t 18]⟩,
      ⟨some 20, none, .bin .neq (.t 17) (.t 19)⟩])
    (.cond (.t 20) (.seq (.ops [⟨some 2, none, .mv (.k (.b false))⟩])
    (.ret))
    (.skip)))
    (.seq (.seq (.ops [⟨some 21, none, .mv (.t 3)⟩,
      ⟨some 22, none, .call (.k (.fn n_spec_SetValid [] [])) [.t 21]⟩,
      ⟨some 23, none, .not (.t 22)⟩])
    (.cond (.t 23) (.seq (.ops [⟨some 24, none, .mv (.t 4)⟩,
      ⟨some 25, none, .bin .eql (.t 24) (.k (.i .i64 0))⟩,
      ⟨some 26, none, .mv (.t 25)⟩,
      ⟨some 27, (some (26, true)), .call (.k (.fn n_laws_alive [] [])) []⟩,
      ⟨some 28, none, .pick (.t 26) (.t 27) (.k (.b false))⟩,
      ⟨some 2, none, .mv (.t 28)⟩])
    (.ret))
    (.skip)))
    (.seq (.ops [⟨some 29, none, .mv (.t 3)⟩,
      ⟨some 30, none, .call (.k (.fn n_impl_Utilization [] [])) [.t 29]⟩,
      ⟨some 5, none, .alloc ty_impl_Fraction [.i .i64 0, .i .i64 0]⟩,
      ⟨none, none, .st 2 (.t 5) (.t 30)⟩])
    (.seq (.ops [⟨some 32, none, .mv (.t 3)⟩,
      ⟨some 33, none, .mv (.t 4)⟩,
      ⟨some 34, none, .call (.k (.fn n_impl_Partition [] [])) [.t 32, .t 33]⟩,
      ⟨some 31, none, .mv (.t 34)⟩,
      ⟨some 35, none, .ext 0 (.t 31)⟩,
      ⟨some 36, none, .ext 1 (.t 31)⟩,
      ⟨some 6, none, .mv (.t 35)⟩,
      ⟨some 7, none, .mv (.t 36)⟩])
    (.seq (.seq (.ops [⟨some 37, none, .mv (.t 7)⟩,
      ⟨some 38, none, .not (.t 37)⟩,
      ⟨some 39, none, .mv (.t 38)⟩,
      ⟨some 40, (some (39, false)), .mv (.t 4)⟩,
      ⟨some 41, (some (39, false)), .bin .lss (.t 40) (.k (.i .i64 1))⟩,
      ⟨some 42, none, .pick (.t 39) (.k (.b true)) (.t 41)⟩,
      ⟨some 43, none, .mv (.t 42)⟩,
      ⟨some 44, (some (43, false)), .fa 0 (.t 5)⟩,
      ⟨some 45, (some (43, false)), .ld (.t 44)⟩,
      ⟨some 46, (some (43, false)), .mv (.t 4)⟩,
      ⟨some 47, (some (43, false)), .fa 1 (.t 5)⟩,
      ⟨some 48, (some (43, false)), .ld (.t 47)⟩,
      ⟨some 49, (some (43, false)), .bin .mul (.t 46) (.t 48)⟩,
      ⟨some 50, (some (43, false)), .bin .gtr (.t 45) (.t 49)⟩,
      ⟨some 51, none, .pick (.t 43) (.k (.b true)) (.t 50)⟩,
      ⟨some 52, none, .mv (.t 51)⟩,
      ⟨some 53, (some (52, false)), .mv (.t 4)⟩,
      ⟨some 54, (some (52, false)), .bin .eql (.t 53) (.k (.i .i64 1))⟩,
      ⟨some 55, (some (52, false)), .mv (.t 3)⟩,
      ⟨some 56, (some (52, false)), .call (.k (.fn n_impl_EdfFeasible [] [])) [.t 55]⟩,
      ⟨some 57, (some (52, false)), .beq true (.t 54) (.t 56)⟩,
      ⟨some 58, none, .pick (.t 52) (.k (.b true)) (.t 57)⟩])
    (.cond (.t 58) (.seq (.ops [⟨some 2, none, .mv (.k (.b false))⟩])
    (.ret))
    (.skip)))
    (.seq (.seq (.ops [⟨some 59, none, .mv (.t 4)⟩,
      ⟨some 60, none, .bin .eql (.t 59) (.k (.i .i64 1))⟩])
    (.cond (.t 60) (.seq (.ops [⟨some 2, none, .mv (.k (.b true))⟩])
    (.ret))
    (.skip)))
    (.seq (.ops [⟨some 62, none, .mv (.t 3)⟩,
      ⟨some 63, none, .mv (.t 4)⟩,
      ⟨some 64, none, .bin .sub (.t 63) (.k (.i .i64 1))⟩,
      ⟨some 65, none, .call (.k (.fn n_impl_Partition [] [])) [.t 62, .t 64]⟩,
      ⟨some 61, none, .mv (.t 65)⟩,
      ⟨some 66, none, .ext 0 (.t 61)⟩,
      ⟨some 67, none, .ext 1 (.t 61)⟩,
      ⟨some 8, none, .mv (.t 66)⟩,
      ⟨some 9, none, .mv (.t 67)⟩])
    (.seq (.ops [⟨some 68, none, .mv (.t 9)⟩,
      ⟨some 69, none, .not (.t 68)⟩,
      ⟨some 70, none, .mv (.t 69)⟩,
      ⟨some 71, (some (70, true)), .mv (.t 4)⟩,
      ⟨some 72, (some (70, true)), .mv (.t 3)⟩,
      ⟨some 73, (some (70, true)), .len (.t 72)⟩,
      ⟨some 74, (some (70, true)), .mx (.k (.i .i64 1)) (.t 73)⟩,
      ⟨some 75, (some (70, true)), .bin .leq (.t 71) (.t 74)⟩,
      ⟨some 76, none, .pick (.t 70) (.t 75) (.k (.b false))⟩,
      ⟨some 2, none, .mv (.t 76)⟩])
    (.ret))))))))))))
theorem k_laws_FnMinCores : chkF Try.prog Try.f6 77 c_laws_FnMinCores [.t 2] = true := by kernel_rfl
theorem call_laws_FnMinCores {args : List AV} {σ : List AB} {K : AV → List AB → Prop} (hn : args.length ≤ 77) (hw : wpC Try.prog σ.length 77 c_laws_FnMinCores (retP σ.length [.t 2] K) ⟨initT 0 args, σ⟩) : CallWp Try.prog n_laws_FnMinCores args σ K := call_fn mixed Try.func6 k_laws_FnMinCores hn hw

-- loop.example/deadlinescheduler/laws.FnMoreCores
-- a cut
-- l0_laws_FnMoreCores: live at the head: 3 15 92 93 94 95
def l0_laws_FnMoreCores : LC := .seq (.seq (.ops [⟨some 89, none, .mv (.t 3)⟩,
      ⟨some 90, none, .call (.k (.fn n_impl_SetValid [] [])) [.t 89]⟩,
      ⟨some 91, none, .mv (.t 90)⟩,
      ⟨some 92, (some (91, true)), .mv (.t 15)⟩,
      ⟨some 93, (some (91, true)), .mv (.t 3)⟩,
      ⟨some 94, (some (91, true)), .len (.t 93)⟩,
      ⟨some 95, (some (91, true)), .bin .lss (.t 92) (.t 94)⟩,
      ⟨some 96, none, .pick (.t 91) (.t 95) (.k (.b false))⟩])
    (.cond (.t 96) (.skip)
    (.exit 0)))
    (.seq (.block 1 (.seq (.ops [⟨some 99, none, .mv (.t 3)⟩,
      ⟨some 100, none, .mv (.t 15)⟩,
      ⟨some 101, none, .call (.k (.fn n_laws_without [] [])) [.t 99, .t 100]⟩,
      ⟨some 102, none, .call (.k (.fn n_impl_MinCores [] [])) [.t 101]⟩,
      ⟨some 103, none, .mv (.t 3)⟩,
      ⟨some 104, none, .call (.k (.fn n_impl_MinCores [] [])) [.t 103]⟩,
      ⟨some 105, none, .bin .gtr (.t 102) (.t 104)⟩])
    (.cond (.t 105) (.seq (.ops [⟨some 2, none, .mv (.k (.b false))⟩])
    (.ret))
    (.skip))))
    (.ops [⟨some 97, none, .mv (.t 15)⟩,
      ⟨some 98, none, .bin .add (.t 97) (.k (.i .i64 1))⟩,
      ⟨some 15, none, .mv (.t 98)⟩]))
def c_laws_FnMoreCores : LC := .seq (.ops [⟨some 2, none, .mv (.k (.b false))⟩])
    (.seq (.seq (.ops [⟨some 16, none, .mv (.t 0)⟩,
      ⟨some 17, none, .len (.t 16)⟩,
      ⟨some 18, none, .bin .gtr (.t 17) (.k (.i .i64 1048576))⟩])
    (.cond (.t 18) (.seq (.ops [⟨some 2, none, .mv (.k (.b true))⟩])
    (.ret))
    (.skip)))
    (.seq (.ops [⟨some 20, none, .mv (.t 0)⟩,
      ⟨some 21, none, .call (.k (.fn n_spec_DrawFirstFit [] [])) [.t 20]⟩,
      ⟨some 19, none, .mv (.t 21)⟩,
      ⟨some 22, none, .ext 0 (.t 19)⟩,
      ⟨some 23, none, .ext 1 (.t 19)⟩,
      ⟨some 3, none, .mv (.t 22)⟩,
      ⟨some 4, none, .mv (.t 23)⟩])
    (.seq (.ops [⟨some 25, none, .mv (.t 3)⟩,
      ⟨some 26, none, .mv (.t 4)⟩,
      ⟨some 27, none, .call (.k (.fn n_impl_FirstFit [] [])) [.t 25, .t 26]⟩,
      ⟨some 24, none, .mv (.t 27)⟩,
      ⟨some 28, none, .ext 0 (.t 24)⟩,
      ⟨some 29, none, .ext 1 (.t 24)⟩,
      ⟨some 5, none, .mv (.t 28)⟩,
      ⟨some 6, none, .mv (.t 29)⟩])
    (.seq (.ops [⟨some 31, none, .mv (.t 3)⟩,
      ⟨some 32, none, .mv (.t 4)⟩,
      ⟨some 33, none, .call (.k (.fn n_spec_FirstFit [] [])) [.t 31, .t 32]⟩,
      ⟨some 30, none, .mv (.t 33)⟩,
      ⟨some 34, none, .ext 0 (.t 30)⟩,
      ⟨some 35, none, .ext 1 (.t 30)⟩,
      ⟨some 7, none, .mv (.t 34)⟩,
      ⟨some 8, none, .mv (.t 35)⟩])
    (.seq (.seq (.ops [⟨some 36, none, .mv (.t 5)⟩,
      ⟨some 37, none, .mv (.t 7)⟩,
      ⟨some 38, none, .call (.k (.fn n_laws_sameInts [] [])) [.t 36, .t 37]⟩,
      ⟨some 39, none, .not (.t 38)⟩,
      ⟨some 40, none, .mv (.t 39)⟩,
      ⟨some 41, (some (40, false)), .mv (.t 6)⟩,
      ⟨some 42, (some (40, false)), .mv (.t 8)⟩,
      ⟨some 43, (some (40, false)), .beq true (.t 41) (.t 42)⟩,
      ⟨some 44, none, .pick (.t 40) (.k (.b true)) (.t 43)⟩])
    (.cond (.t 44) (.seq (.ops [⟨some 2, none, .mv (.k (.b false))⟩])
    (.ret))
    (.skip)))
    (.seq (.ops [⟨some 46, none, .mv (.t 3)⟩,
      ⟨some 47, none, .mv (.t 4)⟩,
      ⟨some 48, none, .call (.k (.fn n_impl_Partition [] [])) [.t 46, .t 47]⟩,
      ⟨some 45, none, .mv (.t 48)⟩,
      ⟨some 49, none, .ext 0 (.t 45)⟩,
      ⟨some 50, none, .ext 1 (.t 45)⟩,
      ⟨some 9, none, .mv (.t 49)⟩,
      ⟨some 10, none, .mv (.t 50)⟩])
    (.join (.seq (.ops [⟨some 51, none, .mv (.t 4)⟩,
      ⟨some 52, none, .bin .lss (.t 51) (.k (.i .i64 5))⟩,
      ⟨some 53, none, .mv (.t 52)⟩,
      ⟨some 54, (some (53, true)), .mv (.t 4)⟩,
      ⟨some 55, (some (53, true)), .bin .gtr (.t 54) (.k (.i .i64 0))⟩,
      ⟨some 56, none, .pick (.t 53) (.t 55) (.k (.b false))⟩])
    (.cond (.t 56) (.seq (.ops [⟨some 58, none, .mv (.t 3)⟩,
      ⟨some 59, none, .mv (.t 4)⟩,
      ⟨some 60, none, .bin .add (.t 59) (.k (.i .i64 1))⟩,
      ⟨some 61, none, .call (.k (.fn n_impl_FirstFit [] [])) [.t 58, .t 60]⟩,
      ⟨some 57, none, .mv (.t 61)⟩,
      ⟨some 62, none, .ext 0 (.t 57)⟩,
      ⟨some 63, none, .ext 1 (.t 57)⟩,
      ⟨some 11, none, .mv (.t 62)⟩,
      ⟨some 12, none, .mv (.t 63)⟩])
    (.seq (.ops [⟨some 65, none, .mv (.t 3)⟩,
      ⟨some 66, none, .mv (.t 4)⟩,
      ⟨some 67, none, .bin .add (.t 66) (.k (.i .i64 1))⟩,
      ⟨some 68, none, .call (.k (.fn n_impl_Partition [] [])) [.t 65, .t 67]⟩,
      ⟨some 64, none, .mv (.t 68)⟩,
      ⟨some 69, none, .ext 0 (.t 64)⟩,
      ⟨some 70, none, .ext 1 (.t 64)⟩,
      ⟨some 13, none, .mv (.t 69)⟩,
      ⟨some 14, none, .mv (.t 70)⟩])
    (.seq (.ops [⟨some 71, none, .mv (.t 6)⟩,
      ⟨some 72, none, .mv (.t 71)⟩,
      ⟨some 73, (some (72, true)), .mv (.t 12)⟩,
      ⟨some 74, (some (72, true)), .not (.t 73)⟩,
      ⟨some 75, (some (72, true)), .mv (.t 74)⟩,
      ⟨some 76, (some (75, false)), .mv (.t 11)⟩,
      ⟨some 77, (some (75, false)), .mv (.t 5)⟩,
      ⟨some 78, (some (75, false)), .call (.k (.fn n_laws_sameInts [] [])) [.t 76, .t 77]⟩,
      ⟨some 79, (some (75, false)), .not (.t 78)⟩,
      ⟨some 80, (some (72, true)), .pick (.t 75) (.k (.b true)) (.t 79)⟩,
      ⟨some 81, none, .pick (.t 72) (.t 80) (.k (.b false))⟩,
      ⟨some 82, none, .mv (.t 81)⟩,
      ⟨some 83, (some (82, false)), .mv (.t 10)⟩,
      ⟨some 84, (some (82, false)), .mv (.t 83)⟩,
      ⟨some 85, (some (84, true)), .mv (.t 14)⟩,
      ⟨some 86, (some (84, true)), .not (.t 85)⟩,
      ⟨some 87, (some (82, false)), .pick (.t 84) (.t 86) (.k (.b false))⟩,
      ⟨some 88, none, .pick (.t 82) (.k (.b true)) (.t 87)⟩])
    (.cond (.t 88) (.seq (.ops [⟨some 2, none, .mv (.k (.b false))⟩])
    (.ret))
    (.skip)))))
    (.skip)))
    (.seq (.seq (.ops [⟨some 15, none, .mv (.k (.i .i64 0))⟩])
    (.block 0 (.loop l0_laws_FnMoreCores)))
    (.seq (.ops [⟨some 106, none, .call (.k (.fn n_laws_alive [] [])) []⟩,
      ⟨some 2, none, .mv (.t 106)⟩])
    (.ret))))))))))
theorem k_laws_FnMoreCores : chkF Try.prog Try.f7 107 c_laws_FnMoreCores [.t 2] = true := by kernel_rfl
theorem call_laws_FnMoreCores {args : List AV} {σ : List AB} {K : AV → List AB → Prop} (hn : args.length ≤ 107) (hw : wpC Try.prog σ.length 107 c_laws_FnMoreCores (retP σ.length [.t 2] K) ⟨initT 0 args, σ⟩) : CallWp Try.prog n_laws_FnMoreCores args σ K := call_fn mixed Try.func7 k_laws_FnMoreCores hn hw

-- loop.example/deadlinescheduler/laws.FnPartition
-- region 25 draws, 9 of 9 first
-- region 26 draws, 9 of 9 first
-- a cut
-- l1_laws_FnPartition: live at the head: 1 5 6 7 8 11 12 13 14 105 106 107 108 109
-- l0_laws_FnPartition: live at the head: 5 6 7 11 16
def l0_laws_FnPartition : LC := .seq (.seq (.ops [⟨some 112, none, .mv (.t 16)⟩,
      ⟨some 113, none, .mv (.t 11)⟩,
      ⟨some 114, none, .len (.t 113)⟩,
      ⟨some 115, none, .bin .lss (.t 112) (.t 114)⟩])
    (.cond (.t 115) (.skip)
    (.exit 2)))
    (.seq (.block 3 (.seq (.draw 9 [⟨some 118, none, .mv (.t 7)⟩,
      ⟨some 119, none, .mv (.t 16)⟩,
      ⟨some 120, none, .ia 1 (.t 118) (.t 119)⟩,
      ⟨some 121, none, .ld (.t 120)⟩,
      ⟨some 122, none, .mv (.t 11)⟩,
      ⟨some 123, none, .mv (.t 16)⟩,
      ⟨some 124, none, .ia 1 (.t 122) (.t 123)⟩,
      ⟨some 125, none, .ld (.t 124)⟩,
      ⟨some 126, none, .bin .neq (.t 121) (.t 125)⟩])
    (.cond (.t 126) (.seq (.seq (.draw 9 [⟨some 127, none, .mv (.t 7)⟩,
      ⟨some 128, none, .mv (.t 16)⟩,
      ⟨some 129, none, .ia 1 (.t 127) (.t 128)⟩,
      ⟨some 130, none, .ld (.t 129)⟩,
      ⟨some 131, none, .mv (.t 11)⟩,
      ⟨some 132, none, .mv (.t 16)⟩,
      ⟨some 133, none, .ia 1 (.t 131) (.t 132)⟩,
      ⟨some 134, none, .ld (.t 133)⟩,
      ⟨some 135, none, .bin .gtr (.t 130) (.t 134)⟩])
    (.cond (.t 135) (.seq (.ops [⟨some 4, none, .mv (.k (.b false))⟩])
    (.ret))
    (.skip)))
    (.exit 2))
    (.skip))))
    (.ops [⟨some 116, none, .mv (.t 16)⟩,
      ⟨some 117, none, .bin .add (.t 116) (.k (.i .i64 1))⟩,
      ⟨some 16, none, .mv (.t 117)⟩]))
def l1_laws_FnPartition : LC := .seq (.seq (.ops [⟨some 78, none, .mv (.t 14)⟩,
      ⟨some 79, none, .mv (.t 5)⟩,
      ⟨some 80, none, .len (.t 79)⟩,
      ⟨some 81, none, .bin .lss (.t 78) (.t 80)⟩])
    (.cond (.t 81) (.skip)
    (.exit 0)))
    (.seq (.block 1 (.seq (.ops [⟨some 84, none, .mv (.t 14)⟩,
      ⟨some 15, none, .mv (.t 84)⟩])
    (.seq (.seq (.ops [⟨some 85, none, .mv (.t 14)⟩,
      ⟨some 86, none, .mv (.t 1)⟩,
      ⟨some 87, none, .len (.t 86)⟩,
      ⟨some 88, none, .bin .lss (.t 85) (.t 87)⟩])
    (.cond (.t 88) (.ops [⟨some 89, none, .mv (.t 1)⟩,
      ⟨some 90, none, .mv (.t 14)⟩,
      ⟨some 91, none, .ia 1 (.t 89) (.t 90)⟩,
      ⟨some 92, none, .ld (.t 91)⟩,
      ⟨some 93, none, .conv .i64 (.t 92)⟩,
      ⟨some 15, none, .mv (.t 93)⟩])
    (.skip)))
    (.ops [⟨some 94, none, .mv (.t 13)⟩,
      ⟨some 95, none, .mv (.t 15)⟩,
      ⟨some 96, none, .mv (.t 6)⟩,
      ⟨some 97, none, .bin .rem (.t 95) (.t 96)⟩,
      ⟨some 98, none, .bsl ty_int [.i .i64 0] 1 [(0, 1, .t 97)]⟩,
      ⟨some 99, none, .app ty_int 1 8 (.t 94) (.t 98)⟩,
      ⟨some 13, none, .mv (.t 99)⟩]))))
    (.ops [⟨some 82, none, .mv (.t 14)⟩,
      ⟨some 83, none, .bin .add (.t 82) (.k (.i .i64 1))⟩,
      ⟨some 14, none, .mv (.t 83)⟩]))
def c_laws_FnPartition : LC := .seq (.ops [⟨some 4, none, .mv (.k (.b false))⟩])
    (.seq (.seq (.ops [⟨some 17, none, .mv (.t 0)⟩,
      ⟨some 18, none, .len (.t 17)⟩,
      ⟨some 19, none, .bin .gtr (.t 18) (.k (.i .i64 1048576))⟩,
      ⟨some 20, none, .mv (.t 19)⟩,
      ⟨some 21, (some (20, false)), .mv (.t 1)⟩,
      ⟨some 22, (some (20, false)), .len (.t 21)⟩,
      ⟨some 23, (some (20, false)), .bin .gtr (.t 22) (.k (.i .i64 1048576))⟩,
      ⟨some 24, none, .pick (.t 20) (.k (.b true)) (.t 23)⟩])
    (.cond (.t 24) (.seq (.ops [⟨some 4, none, .mv (.k (.b true))⟩])
    (.ret))
    (.skip)))
    (.seq (.ops [⟨some 26, none, .mv (.t 0)⟩,
      ⟨some 27, none, .call (.k (.fn n_spec_DrawPartition [] [])) [.t 26]⟩,
      ⟨some 25, none, .mv (.t 27)⟩,
      ⟨some 28, none, .ext 0 (.t 25)⟩,
      ⟨some 29, none, .ext 1 (.t 25)⟩,
      ⟨some 5, none, .mv (.t 28)⟩,
      ⟨some 6, none, .mv (.t 29)⟩])
    (.seq (.ops [⟨some 31, none, .mv (.t 5)⟩,
      ⟨some 32, none, .mv (.t 6)⟩,
      ⟨some 33, none, .call (.k (.fn n_impl_Partition [] [])) [.t 31, .t 32]⟩,
      ⟨some 30, none, .mv (.t 33)⟩,
      ⟨some 34, none, .ext 0 (.t 30)⟩,
      ⟨some 35, none, .ext 1 (.t 30)⟩,
      ⟨some 7, none, .mv (.t 34)⟩,
      ⟨some 8, none, .mv (.t 35)⟩])
    (.seq (.ops [⟨some 37, none, .mv (.t 5)⟩,
      ⟨some 38, none, .mv (.t 6)⟩,
      ⟨some 39, none, .call (.k (.fn n_spec_Partition [] [])) [.t 37, .t 38]⟩,
      ⟨some 36, none, .mv (.t 39)⟩,
      ⟨some 40, none, .ext 0 (.t 36)⟩,
      ⟨some 41, none, .ext 1 (.t 36)⟩,
      ⟨some 9, none, .mv (.t 40)⟩,
      ⟨some 10, none, .mv (.t 41)⟩])
    (.seq (.seq (.ops [⟨some 42, none, .mv (.t 7)⟩,
      ⟨some 43, none, .mv (.t 9)⟩,
      ⟨some 44, none, .call (.k (.fn n_laws_sameInts [] [])) [.t 42, .t 43]⟩,
      ⟨some 45, none, .not (.t 44)⟩,
      ⟨some 46, none, .mv (.t 45)⟩,
      ⟨some 47, (some (46, false)), .mv (.t 8)⟩,
      ⟨some 48, (some (46, false)), .mv (.t 10)⟩,
      ⟨some 49, (some (46, false)), .beq true (.t 47) (.t 48)⟩,
      ⟨some 50, none, .pick (.t 46) (.k (.b true)) (.t 49)⟩])
    (.cond (.t 50) (.seq (.ops [⟨some 4, none, .mv (.k (.b false))⟩])
    (.ret))
    (.skip)))
    (.seq (.ops [⟨some 52, none, .mv (.t 5)⟩,
      ⟨some 53, none, .mv (.t 6)⟩,
      ⟨some 54, none, .call (.k (.fn n_impl_FirstFit [] [])) [.t 52, .t 53]⟩,
      ⟨some 51, none, .mv (.t 54)⟩,
      ⟨some 55, none, .ext 0 (.t 51)⟩,
      ⟨some 56, none, .ext 1 (.t 51)⟩,
      ⟨some 11, none, .mv (.t 55)⟩,
      ⟨some 12, none, .mv (.t 56)⟩])
    (.seq (.seq (.ops [⟨some 57, none, .mv (.t 5)⟩,
      ⟨some 58, none, .call (.k (.fn n_spec_SetValid [] [])) [.t 57]⟩,
      ⟨some 59, none, .not (.t 58)⟩,
      ⟨some 60, none, .mv (.t 59)⟩,
      ⟨some 61, (some (60, false)), .mv (.t 6)⟩,
      ⟨some 62, (some (60, false)), .bin .lss (.t 61) (.k (.i .i64 1))⟩,
      ⟨some 63, none, .pick (.t 60) (.k (.b true)) (.t 62)⟩,
      ⟨some 64, none, .mv (.t 63)⟩,
      ⟨some 65, (some (64, false)), .mv (.t 6)⟩,
      ⟨some 66, (some (64, false)), .bin .gtr (.t 65) (.k (.i .i64 5))⟩,
      ⟨some 67, none, .pick (.t 64) (.k (.b true)) (.t 66)⟩])
    (.cond (.t 67) (.seq (.ops [⟨some 68, none, .mv (.t 8)⟩,
      ⟨some 69, none, .not (.t 68)⟩,
      ⟨some 70, none, .mv (.t 69)⟩,
      ⟨some 71, (some (70, true)), .mv (.t 12)⟩,
      ⟨some 72, (some (70, true)), .not (.t 71)⟩,
      ⟨some 73, none, .pick (.t 70) (.t 72) (.k (.b false))⟩,
      ⟨some 74, none, .mv (.t 73)⟩,
      ⟨some 75, (some (74, true)), .call (.k (.fn n_laws_alive [] [])) []⟩,
      ⟨some 76, none, .pick (.t 74) (.t 75) (.k (.b false))⟩,
      ⟨some 4, none, .mv (.t 76)⟩])
    (.ret))
    (.skip)))
    (.seq (.ops [⟨some 77, none, .bsl ty_int [.i .i64 0] 0 []⟩,
      ⟨some 13, none, .mv (.t 77)⟩])
    (.seq (.seq (.ops [⟨some 14, none, .mv (.k (.i .i64 0))⟩])
    (.block 0 (.loop l1_laws_FnPartition)))
    (.seq (.seq (.ops [⟨some 100, none, .mv (.t 8)⟩,
      ⟨some 101, none, .not (.t 100)⟩])
    (.cond (.t 101) (.seq (.ops [⟨some 102, none, .mv (.t 12)⟩,
      ⟨some 103, none, .not (.t 102)⟩,
      ⟨some 104, none, .mv (.t 103)⟩,
      ⟨some 105, (some (104, true)), .mv (.t 5)⟩,
      ⟨some 106, (some (104, true)), .mv (.t 6)⟩,
      ⟨some 107, (some (104, true)), .mv (.t 13)⟩,
      ⟨some 108, (some (104, true)), .call (.k (.fn n_impl_AssignmentFeasible [] [])) [.t 105, .t 106, .t 107]⟩,
      ⟨some 109, (some (104, true)), .not (.t 108)⟩,
      ⟨some 110, none, .pick (.t 104) (.t 109) (.k (.b false))⟩,
      ⟨some 4, none, .mv (.t 110)⟩])
    (.ret))
    (.skip)))
    (.join (.seq (.ops [⟨some 111, none, .mv (.t 12)⟩])
    (.cond (.t 111) (.seq (.ops [⟨some 16, none, .mv (.k (.i .i64 0))⟩])
    (.block 2 (.loop l0_laws_FnPartition)))
    (.skip)))
    (.seq (.ops [⟨some 136, none, .mv (.t 5)⟩,
      ⟨some 137, none, .mv (.t 6)⟩,
      ⟨some 138, none, .mv (.t 7)⟩,
      ⟨some 139, none, .call (.k (.fn n_impl_AssignmentFeasible [] [])) [.t 136, .t 137, .t 138]⟩,
      ⟨some 4, none, .mv (.t 139)⟩])
    (.ret)))))))))))))
theorem k_laws_FnPartition : chkF Try.prog Try.f8 140 c_laws_FnPartition [.t 4] = true := by kernel_rfl
theorem call_laws_FnPartition {args : List AV} {σ : List AB} {K : AV → List AB → Prop} (hn : args.length ≤ 140) (hw : wpC Try.prog σ.length 140 c_laws_FnPartition (retP σ.length [.t 4] K) ⟨initT 0 args, σ⟩) : CallWp Try.prog n_laws_FnPartition args σ K := call_fn mixed Try.func8 k_laws_FnPartition hn hw

-- loop.example/deadlinescheduler/laws.FnPartitionSafe
-- l0_laws_FnPartitionSafe: live at the head: 3 4 5 6 9 37 38 39
def l0_laws_FnPartitionSafe : LC := .seq (.seq (.ops [⟨some 35, none, .mv (.t 6)⟩,
      ⟨some 36, none, .mv (.t 35)⟩,
      ⟨some 37, (some (36, true)), .mv (.t 9)⟩,
      ⟨some 38, (some (36, true)), .mv (.t 4)⟩,
      ⟨some 39, (some (36, true)), .bin .lss (.t 37) (.t 38)⟩,
      ⟨some 40, none, .pick (.t 36) (.t 39) (.k (.b false))⟩])
    (.cond (.t 40) (.skip)
    (.exit 0)))
    (.seq (.block 1 (.seq (.ops [⟨some 43, none, .mv (.t 3)⟩,
      ⟨some 44, none, .mv (.t 4)⟩,
      ⟨some 45, none, .mv (.t 5)⟩,
      ⟨some 46, none, .mv (.t 9)⟩,
      ⟨some 47, none, .call (.k (.fn n_impl_CoreTasks [] [])) [.t 43, .t 44, .t 45, .t 46]⟩,
      ⟨some 10, none, .mv (.t 47)⟩])
    (.seq (.ops [⟨some 48, none, .mv (.t 10)⟩,
      ⟨some 49, none, .call (.k (.fn n_impl_Synchronous [] [])) [.t 48, .k (.i .i64 120)]⟩,
      ⟨some 11, none, .mv (.t 49)⟩])
    (.seq (.ops [⟨some 50, none, .mv (.t 11)⟩,
      ⟨some 51, none, .mv (.t 10)⟩,
      ⟨some 52, none, .mv (.t 11)⟩,
      ⟨some 53, none, .call (.k (.fn n_impl_RunEdf [] [])) [.t 51, .t 52]⟩,
      ⟨some 54, none, .call (.k (.fn n_impl_Missed [] [])) [.t 50, .t 53]⟩,
      ⟨some 55, none, .len (.t 54)⟩,
      ⟨some 56, none, .bin .gtr (.t 55) (.k (.i .i64 0))⟩])
    (.cond (.t 56) (.seq (.ops [⟨some 2, none, .mv (.k (.b false))⟩])
    (.ret))
    (.skip))))))
    (.ops [⟨some 41, none, .mv (.t 9)⟩,
      ⟨some 42, none, .bin .add (.t 41) (.k (.i .i64 1))⟩,
      ⟨some 9, none, .mv (.t 42)⟩]))
def c_laws_FnPartitionSafe : LC := .seq (.ops [⟨some 2, none, .mv (.k (.b false))⟩])
    (.seq (.seq (.ops [⟨some 12, none, .mv (.t 0)⟩,
      ⟨some 13, none, .len (.t 12)⟩,
      ⟨some 14, none, .bin .gtr (.t 13) (.k (.i .i64 1048576))⟩])
    (.cond (.t 14) (.seq (.ops [⟨some 2, none, .mv (.k (.b true))⟩])
    (.ret))
    (.skip)))
    (.seq (.ops [⟨some 16, none, .mv (.t 0)⟩,
      ⟨some 17, none, .call (.k (.fn n_spec_DrawPartition [] [])) [.t 16]⟩,
      ⟨some 15, none, .mv (.t 17)⟩,
      ⟨some 18, none, .ext 0 (.t 15)⟩,
      ⟨some 19, none, .ext 1 (.t 15)⟩,
      ⟨some 3, none, .mv (.t 18)⟩,
      ⟨some 4, none, .mv (.t 19)⟩])
    (.seq (.ops [⟨some 21, none, .mv (.t 3)⟩,
      ⟨some 22, none, .mv (.t 4)⟩,
      ⟨some 23, none, .call (.k (.fn n_impl_Partition [] [])) [.t 21, .t 22]⟩,
      ⟨some 20, none, .mv (.t 23)⟩,
      ⟨some 24, none, .ext 0 (.t 20)⟩,
      ⟨some 25, none, .ext 1 (.t 20)⟩,
      ⟨some 5, none, .mv (.t 24)⟩,
      ⟨some 6, none, .mv (.t 25)⟩])
    (.seq (.ops [⟨some 27, none, .mv (.t 3)⟩,
      ⟨some 28, none, .mv (.t 4)⟩,
      ⟨some 29, none, .call (.k (.fn n_spec_Partition [] [])) [.t 27, .t 28]⟩,
      ⟨some 26, none, .mv (.t 29)⟩,
      ⟨some 30, none, .ext 0 (.t 26)⟩,
      ⟨some 31, none, .ext 1 (.t 26)⟩,
      ⟨some 7, none, .mv (.t 30)⟩,
      ⟨some 8, none, .mv (.t 31)⟩])
    (.seq (.seq (.ops [⟨some 32, none, .mv (.t 6)⟩,
      ⟨some 33, none, .mv (.t 8)⟩,
      ⟨some 34, none, .beq true (.t 32) (.t 33)⟩])
    (.cond (.t 34) (.seq (.ops [⟨some 2, none, .mv (.k (.b false))⟩])
    (.ret))
    (.skip)))
    (.seq (.seq (.ops [⟨some 9, none, .mv (.k (.i .i64 0))⟩])
    (.block 0 (.loop l0_laws_FnPartitionSafe)))
    (.seq (.ops [⟨some 57, none, .call (.k (.fn n_laws_alive [] [])) []⟩,
      ⟨some 2, none, .mv (.t 57)⟩])
    (.ret))))))))
theorem k_laws_FnPartitionSafe : chkF Try.prog Try.f9 58 c_laws_FnPartitionSafe [.t 2] = true := by kernel_rfl
theorem call_laws_FnPartitionSafe {args : List AV} {σ : List AB} {K : AV → List AB → Prop} (hn : args.length ≤ 58) (hw : wpC Try.prog σ.length 58 c_laws_FnPartitionSafe (retP σ.length [.t 2] K) ⟨initT 0 args, σ⟩) : CallWp Try.prog n_laws_FnPartitionSafe args σ K := call_fn mixed Try.func9 k_laws_FnPartitionSafe hn hw

-- loop.example/deadlinescheduler/laws.FnWcetTight
def c_laws_FnWcetTight : LC := .seq (.ops [⟨some 2, none, .mv (.k (.b false))⟩])
    (.seq (.seq (.ops [⟨some 5, none, .mv (.t 0)⟩,
      ⟨some 6, none, .len (.t 5)⟩,
      ⟨some 7, none, .bin .gtr (.t 6) (.k (.i .i64 1048576))⟩])
    (.cond (.t 7) (.seq (.ops [⟨some 2, none, .mv (.k (.b true))⟩])
    (.ret))
    (.skip)))
    (.seq (.ops [⟨some 8, none, .mv (.t 0)⟩,
      ⟨some 9, none, .call (.k (.fn n_spec_DrawWorstChoices [] [])) [.t 8]⟩,
      ⟨some 3, none, .mv (.t 9)⟩])
    (.seq (.ops [⟨some 10, none, .mv (.t 3)⟩,
      ⟨some 11, none, .call (.k (.fn n_impl_WorstChoices [] [])) [.t 10]⟩,
      ⟨some 4, none, .mv (.t 11)⟩])
    (.seq (.seq (.ops [⟨some 12, none, .mv (.t 4)⟩,
      ⟨some 13, none, .mv (.t 3)⟩,
      ⟨some 14, none, .call (.k (.fn n_spec_WorstChoices [] [])) [.t 13]⟩,
      ⟨some 15, none, .call (.k (.fn n_laws_sameInts [] [])) [.t 12, .t 14]⟩,
      ⟨some 16, none, .not (.t 15)⟩])
    (.cond (.t 16) (.seq (.ops [⟨some 2, none, .mv (.k (.b false))⟩])
    (.ret))
    (.skip)))
    (.seq (.seq (.ops [⟨some 17, none, .mv (.t 3)⟩,
      ⟨some 18, none, .call (.k (.fn n_spec_ProgramValid [] [])) [.t 17]⟩,
      ⟨some 19, none, .not (.t 18)⟩])
    (.cond (.t 19) (.seq (.ops [⟨some 20, none, .mv (.t 4)⟩,
      ⟨some 21, none, .len (.t 20)⟩,
      ⟨some 22, none, .bin .eql (.t 21) (.k (.i .i64 0))⟩,
      ⟨some 23, none, .mv (.t 22)⟩,
      ⟨some 24, (some (23, true)), .call (.k (.fn n_laws_alive [] [])) []⟩,
      ⟨some 25, none, .pick (.t 23) (.t 24) (.k (.b false))⟩,
      ⟨some 2, none, .mv (.t 25)⟩])
    (.ret))
    (.skip)))
    (.seq (.ops [⟨some 26, none, .mv (.t 3)⟩,
      ⟨some 27, none, .mv (.t 4)⟩,
      ⟨some 28, none, .call (.k (.fn n_impl_RunProgram [] [])) [.t 26, .t 27]⟩,
      ⟨some 29, none, .mv (.t 3)⟩,
      ⟨some 30, none, .call (.k (.fn n_impl_Wcet [] [])) [.t 29]⟩,
      ⟨some 31, none, .bin .eql (.t 28) (.t 30)⟩,
      ⟨some 32, none, .mv (.t 31)⟩,
      ⟨some 33, (some (32, true)), .mv (.t 3)⟩,
      ⟨some 34, (some (32, true)), .call (.k (.fn n_impl_Wcet [] [])) [.t 33]⟩,
      ⟨some 35, (some (32, true)), .mv (.t 3)⟩,
      ⟨some 36, (some (32, true)), .call (.k (.fn n_spec_Wcet [] [])) [.t 35]⟩,
      ⟨some 37, (some (32, true)), .bin .eql (.t 34) (.t 36)⟩,
      ⟨some 38, none, .pick (.t 32) (.t 37) (.k (.b false))⟩,
      ⟨some 39, none, .mv (.t 38)⟩,
      ⟨some 40, (some (39, true)), .mv (.t 3)⟩,
      ⟨some 41, (some (39, true)), .call (.k (.fn n_impl_Bcet [] [])) [.t 40]⟩,
      ⟨some 42, (some (39, true)), .mv (.t 3)⟩,
      ⟨some 43, (some (39, true)), .call (.k (.fn n_spec_Bcet [] [])) [.t 42]⟩,
      ⟨some 44, (some (39, true)), .bin .eql (.t 41) (.t 43)⟩,
      ⟨some 45, none, .pick (.t 39) (.t 44) (.k (.b false))⟩,
      ⟨some 2, none, .mv (.t 45)⟩])
    (.ret)))))))
theorem k_laws_FnWcetTight : chkF Try.prog Try.f10 46 c_laws_FnWcetTight [.t 2] = true := by kernel_rfl
theorem call_laws_FnWcetTight {args : List AV} {σ : List AB} {K : AV → List AB → Prop} (hn : args.length ≤ 46) (hw : wpC Try.prog σ.length 46 c_laws_FnWcetTight (retP σ.length [.t 2] K) ⟨initT 0 args, σ⟩) : CallWp Try.prog n_laws_FnWcetTight args σ K := call_fn mixed Try.func10 k_laws_FnWcetTight hn hw

-- loop.example/deadlinescheduler/spec.DrawTable
def c_spec_DrawTable : LC := .seq (.ops [⟨some 2, none, .mv (.k (.sn))⟩])
    (.seq (.ops [⟨some 3, none, .mv (.t 0)⟩,
      ⟨some 4, none, .call (.k (.fn n_spec_l20Open [] [])) [.t 3]⟩,
      ⟨some 5, none, .call (.k (.fn n_spec_l20Set [] [])) [.t 4, .k (.i .i64 12)]⟩,
      ⟨some 2, none, .mv (.t 5)⟩])
    (.ret))
theorem k_spec_DrawTable : chkF Try.prog Try.f11 6 c_spec_DrawTable [.t 2] = true := by kernel_rfl
theorem call_spec_DrawTable {args : List AV} {σ : List AB} {K : AV → List AB → Prop} (hn : args.length ≤ 6) (hw : wpC Try.prog σ.length 6 c_spec_DrawTable (retP σ.length [.t 2] K) ⟨initT 0 args, σ⟩) : CallWp Try.prog n_spec_DrawTable args σ K := call_fn mixed Try.func11 k_spec_DrawTable hn hw

-- loop.example/deadlinescheduler/impl.Table
-- region 4: a plan with 2 orders
-- region 13: a plan with 1 orders
-- region 14 draws, 20 of 20 first
-- a cut
-- a cut
-- l1_impl_Table: live at the head: 0 4 5 6 34 35 68 69 70 71 72 73 74 75 76 77 78 79 80
-- l0_impl_Table: live at the head: 0 4 5 6 7 8 34 35 38 39 40 68 69 70 71 72 73 74 75 76 77 78 79 80
def l0_impl_Table : LC := .seq (.ops [⟨some 41, none, .bin .lss (.t 40) (.t 39)⟩])
    (.seq (.cond (.t 41) (.skip)
    (.exit 2))
    (.seq (.block 3 (.seq (.ops [⟨some 42, none, .mv (.t 40)⟩,
      ⟨some 43, none, .ia 3 (.t 38) (.t 40)⟩,
      ⟨some 44, none, .ldn 3 (.t 43)⟩,
      ⟨some 10, none, .alloc ty_impl_Task [.i .i64 0, .i .i64 0, .i .i64 0]⟩,
      ⟨some 9, none, .mv (.t 42)⟩,
      ⟨none, none, .st 3 (.t 10) (.t 44)⟩])
    (.join (.seq (.ops [⟨some 45, none, .mv (.t 7)⟩,
      ⟨some 46, none, .fa 2 (.t 10)⟩,
      ⟨some 47, none, .ld (.t 46)⟩,
      ⟨some 48, none, .bin .rem (.t 45) (.t 47)⟩,
      ⟨some 49, none, .bin .eql (.t 48) (.k (.i .i64 0))⟩])
    (.cond (.t 49) (.plan [0, 1, 2, 3, 4, 5, 6, 7, 8, 9, 10] [⟨some 50, none, .mv (.t 5)⟩,
      ⟨some 51, none, .mv (.t 9)⟩,
      ⟨some 52, none, .mv (.t 6)⟩,
      ⟨some 53, none, .mv (.t 9)⟩,
      ⟨some 54, none, .fa 0 (.t 10)⟩,
      ⟨some 55, none, .ld (.t 54)⟩,
      ⟨some 56, none, .mv (.t 7)⟩,
      ⟨some 57, none, .fa 1 (.t 10)⟩,
      ⟨some 58, none, .ld (.t 57)⟩,
      ⟨some 59, none, .bin .add (.t 56) (.t 58)⟩,
      ⟨some 60, none, .ia 1 (.t 50) (.t 51)⟩]
      (.one 11 ⟨none, none, .st 1 (.t 60) (.t 55)⟩ [(58, none, 57)] [12]
        [⟨some 61, none, .ia 1 (.t 52) (.t 53)⟩]
      (.one 13 ⟨none, none, .st 1 (.t 61) (.t 59)⟩ [] []
        []
      .fin)))
    (.skip)))
    (.seq (.draw 20 [⟨some 62, none, .mv (.t 5)⟩,
      ⟨some 63, none, .mv (.t 9)⟩,
      ⟨some 64, none, .ia 1 (.t 62) (.t 63)⟩,
      ⟨some 65, none, .ld (.t 64)⟩,
      ⟨some 66, none, .bin .gtr (.t 65) (.k (.i .i64 0))⟩,
      ⟨some 67, none, .mv (.t 66)⟩,
      ⟨some 68, (some (67, true)), .mv (.t 8)⟩,
      ⟨some 69, (some (67, true)), .bin .lss (.t 68) (.k (.i .i64 0))⟩,
      ⟨some 70, (some (67, true)), .mv (.t 69)⟩,
      ⟨some 71, (some (70, false)), .mv (.t 6)⟩,
      ⟨some 72, (some (70, false)), .mv (.t 9)⟩,
      ⟨some 73, (some (70, false)), .ia 1 (.t 71) (.t 72)⟩,
      ⟨some 74, (some (70, false)), .ld (.t 73)⟩,
      ⟨some 75, (some (70, false)), .mv (.t 6)⟩,
      ⟨some 76, (some (70, false)), .mv (.t 8)⟩,
      ⟨some 77, (some (70, false)), .ia 1 (.t 75) (.t 76)⟩,
      ⟨some 78, (some (70, false)), .ld (.t 77)⟩,
      ⟨some 79, (some (70, false)), .bin .lss (.t 74) (.t 78)⟩,
      ⟨some 80, (some (67, true)), .pick (.t 70) (.k (.b true)) (.t 79)⟩,
      ⟨some 81, none, .pick (.t 67) (.t 80) (.k (.b false))⟩])
    (.cond (.t 81) (.ops [⟨some 82, none, .mv (.t 9)⟩,
      ⟨some 8, none, .mv (.t 82)⟩])
    (.skip))))))
    (.ops [⟨some 83, none, .bin .add (.t 40) (.k (.i .i64 1))⟩,
      ⟨some 40, none, .mv (.t 83)⟩])))
def l1_impl_Table : LC := .seq (.ops [⟨some 36, none, .bin .lss (.t 35) (.t 34)⟩])
    (.seq (.cond (.t 36) (.skip)
    (.exit 0))
    (.seq (.block 1 (.seq (.ops [⟨some 37, none, .mv (.t 35)⟩,
      ⟨some 7, none, .mv (.t 37)⟩])
    (.seq (.ops [⟨some 8, none, .mv (.k (.i .i64 (-1)))⟩])
    (.seq (.seq (.ops [⟨some 38, none, .mv (.t 0)⟩,
      ⟨some 39, none, .len (.t 38)⟩,
      ⟨some 40, none, .mv (.k (.i .i64 0))⟩])
    (.block 2 (.loop l0_impl_Table)))
    (.seq (.ops [⟨some 84, none, .mv (.t 8)⟩,
      ⟨some 85, none, .bin .geq (.t 84) (.k (.i .i64 0))⟩])
    (.cond (.t 85) (.seq (.ops [⟨some 86, none, .mv (.t 5)⟩,
      ⟨some 87, none, .mv (.t 8)⟩,
      ⟨some 88, none, .ia 1 (.t 86) (.t 87)⟩,
      ⟨some 89, none, .ld (.t 88)⟩,
      ⟨some 90, none, .bin .sub (.t 89) (.k (.i .i64 1))⟩,
      ⟨some 91, none, .ia 1 (.t 86) (.t 87)⟩,
      ⟨none, none, .st 1 (.t 91) (.t 90)⟩])
    (.ops [⟨some 92, none, .mv (.t 4)⟩,
      ⟨some 93, none, .mv (.t 7)⟩,
      ⟨some 94, none, .mv (.t 8)⟩,
      ⟨some 95, none, .ia 1 (.t 92) (.t 93)⟩,
      ⟨none, none, .st 1 (.t 95) (.t 94)⟩]))
    (.skip)))))))
    (.ops [⟨some 96, none, .bin .add (.t 35) (.k (.i .i64 1))⟩,
      ⟨some 35, none, .mv (.t 96)⟩])))
def c_impl_Table : LC := .seq (.ops [⟨some 2, none, .mv (.k (.sn))⟩,
      ⟨some 3, none, .mv (.k (.b false))⟩])
    (.seq (.seq (.ops [⟨some 11, none, .mv (.t 0)⟩,
      ⟨some 12, none, .call (.k (.fn n_impl_SetValid [] [])) [.t 11]⟩,
      ⟨some 13, none, .not (.t 12)⟩,
      ⟨some 14, none, .mv (.t 13)⟩,
      ⟨some 15, (some (14, false)), .mv (.t 0)⟩,
      ⟨some 16, (some (14, false)), .call (.k (.fn n_impl_feasible [] [])) [.t 15]⟩,
      ⟨some 17, (some (14, false)), .not (.t 16)⟩,
      ⟨some 18, none, .pick (.t 14) (.k (.b true)) (.t 17)⟩,
      ⟨some 19, none, .mv (.t 18)⟩,
      ⟨some 20, (some (19, false)), .mv (.t 0)⟩,
      ⟨some 21, (some (19, false)), .call (.k (.fn n_impl_hyper [] [])) [.t 20]⟩,
      ⟨some 22, (some (19, false)), .bin .gtr (.t 21) (.k (.i .i64 720))⟩,
      ⟨some 23, none, .pick (.t 19) (.k (.b true)) (.t 22)⟩])
    (.cond (.t 23) (.seq (.ops [⟨some 2, none, .mv (.k (.sn))⟩,
      ⟨some 3, none, .mv (.k (.b false))⟩])
    (.ret))
    (.skip)))
    (.seq (.ops [⟨some 24, none, .mv (.t 0)⟩,
      ⟨some 25, none, .call (.k (.fn n_impl_hyper [] [])) [.t 24]⟩,
      ⟨some 26, none, .call (.k (.fn n_impl_none [] [])) [.t 25]⟩,
      ⟨some 4, none, .mv (.t 26)⟩])
    (.join (.plan [0, 1, 3, 4] [⟨some 27, none, .mv (.t 0)⟩,
      ⟨some 28, none, .len (.t 27)⟩,
      ⟨some 30, none, .mv (.t 0)⟩,
      ⟨some 31, none, .len (.t 30)⟩]
      (.alt (.one 2 ⟨some 29, none, .msl ty_int 8 [.i .i64 0] (.t 28)⟩ [] [6]
        [⟨some 5, none, .mv (.t 29)⟩]
      (.one 5 ⟨some 32, none, .msl ty_int 8 [.i .i64 0] (.t 31)⟩ [] [7]
        [⟨some 6, none, .mv (.t 32)⟩]
      .fin)) (.one 5 ⟨some 32, none, .msl ty_int 8 [.i .i64 0] (.t 31)⟩ [] []
        []
      (.one 2 ⟨some 29, none, .msl ty_int 8 [.i .i64 0] (.t 28)⟩ [] [6, 7]
        [⟨some 5, none, .mv (.t 29)⟩,
        ⟨some 6, none, .mv (.t 32)⟩]
      .fin))))
    (.seq (.seq (.ops [⟨some 33, none, .mv (.t 4)⟩,
      ⟨some 34, none, .len (.t 33)⟩,
      ⟨some 35, none, .mv (.k (.i .i64 0))⟩])
    (.block 0 (.loop l1_impl_Table)))
    (.seq (.ops [⟨some 97, none, .mv (.t 4)⟩,
      ⟨some 2, none, .mv (.t 97)⟩,
      ⟨some 3, none, .mv (.k (.b true))⟩])
    (.ret))))))
theorem k_impl_Table : chkF Try.prog Try.f12 98 c_impl_Table [.t 2, .t 3] = true := by kernel_rfl
theorem call_impl_Table {args : List AV} {σ : List AB} {K : AV → List AB → Prop} (hn : args.length ≤ 98) (hw : wpC Try.prog σ.length 98 c_impl_Table (retP σ.length [.t 2, .t 3] K) ⟨initT 0 args, σ⟩) : CallWp Try.prog n_impl_Table args σ K := call_fn mixed Try.func12 k_impl_Table hn hw

-- loop.example/deadlinescheduler/spec.Table
-- a cut
-- l1_spec_Table: live at the head: 0 4 5 6 61 62 63 64 65 66 67 68 69 70 71 72 73
-- l0_spec_Table: live at the head: 0 4 5 6 7 8 61 62 63 64 65 66 67 68 69 70 71 72 73
def l0_spec_Table : LC := .seq (.seq (.ops [⟨some 33, none, .mv (.t 8)⟩,
      ⟨some 34, none, .mv (.t 0)⟩,
      ⟨some 35, none, .len (.t 34)⟩,
      ⟨some 36, none, .bin .lss (.t 33) (.t 35)⟩])
    (.cond (.t 36) (.skip)
    (.exit 2)))
    (.seq (.block 3 (.join (.seq (.ops [⟨some 39, none, .mv (.t 6)⟩,
      ⟨some 40, none, .mv (.t 0)⟩,
      ⟨some 41, none, .mv (.t 8)⟩,
      ⟨some 42, none, .ia 3 (.t 40) (.t 41)⟩,
      ⟨some 43, none, .fa 2 (.t 42)⟩,
      ⟨some 44, none, .ld (.t 43)⟩,
      ⟨some 45, none, .bin .rem (.t 39) (.t 44)⟩,
      ⟨some 46, none, .bin .eql (.t 45) (.k (.i .i64 0))⟩])
    (.cond (.t 46) (.ops [⟨some 47, none, .mv (.t 5)⟩,
      ⟨some 48, none, .mv (.t 8)⟩,
      ⟨some 49, none, .mv (.t 0)⟩,
      ⟨some 50, none, .mv (.t 8)⟩,
      ⟨some 51, none, .ia 3 (.t 49) (.t 50)⟩,
      ⟨some 52, none, .fa 0 (.t 51)⟩,
      ⟨some 53, none, .ld (.t 52)⟩,
      ⟨some 54, none, .ia 1 (.t 47) (.t 48)⟩,
      ⟨none, none, .st 1 (.t 54) (.t 53)⟩])
    (.skip)))
    (.seq (.ops [⟨some 55, none, .mv (.t 5)⟩,
      ⟨some 56, none, .mv (.t 8)⟩,
      ⟨some 57, none, .ia 1 (.t 55) (.t 56)⟩,
      ⟨some 58, none, .ld (.t 57)⟩,
      ⟨some 59, none, .bin .gtr (.t 58) (.k (.i .i64 0))⟩,
      ⟨some 60, none, .mv (.t 59)⟩,
      ⟨some 61, (some (60, true)), .mv (.t 7)⟩,
      ⟨some 62, (some (60, true)), .bin .lss (.t 61) (.k (.i .i64 0))⟩,
      ⟨some 63, (some (60, true)), .mv (.t 62)⟩,
      ⟨some 64, (some (63, false)), .mv (.t 0)⟩,
      ⟨some 65, (some (63, false)), .mv (.t 8)⟩,
      ⟨some 66, (some (63, false)), .mv (.t 6)⟩,
      ⟨some 67, (some (63, false)), .call (.k (.fn n_spec_l13Due [] [])) [.t 64, .t 65, .t 66]⟩,
      ⟨some 68, (some (63, false)), .mv (.t 0)⟩,
      ⟨some 69, (some (63, false)), .mv (.t 7)⟩,
      ⟨some 70, (some (63, false)), .mv (.t 6)⟩,
      ⟨some 71, (some (63, false)), .call (.k (.fn n_spec_l13Due [] [])) [.t 68, .t 69, .t 70]⟩,
      ⟨some 72, (some (63, false)), .bin .lss (.t 67) (.t 71)⟩,
      ⟨some 73, (some (60, true)), .pick (.t 63) (.k (.b true)) (.t 72)⟩,
      ⟨some 74, none, .pick (.t 60) (.t 73) (.k (.b false))⟩])
    (.cond (.t 74) (.ops [⟨some 75, none, .mv (.t 8)⟩,
      ⟨some 7, none, .mv (.t 75)⟩])
    (.skip)))))
    (.ops [⟨some 37, none, .mv (.t 8)⟩,
      ⟨some 38, none, .bin .add (.t 37) (.k (.i .i64 1))⟩,
      ⟨some 8, none, .mv (.t 38)⟩]))
def l1_spec_Table : LC := .seq (.seq (.ops [⟨some 27, none, .mv (.t 6)⟩,
      ⟨some 28, none, .mv (.t 0)⟩,
      ⟨some 29, none, .call (.k (.fn n_spec_l1Hyper [] [])) [.t 28]⟩,
      ⟨some 30, none, .bin .lss (.t 27) (.t 29)⟩])
    (.cond (.t 30) (.skip)
    (.exit 0)))
    (.seq (.block 1 (.seq (.ops [⟨some 7, none, .mv (.k (.i .i64 (-1)))⟩])
    (.seq (.seq (.ops [⟨some 8, none, .mv (.k (.i .i64 0))⟩])
    (.block 2 (.loop l0_spec_Table)))
    (.seq (.seq (.ops [⟨some 76, none, .mv (.t 7)⟩,
      ⟨some 77, none, .bin .geq (.t 76) (.k (.i .i64 0))⟩])
    (.cond (.t 77) (.ops [⟨some 78, none, .mv (.t 5)⟩,
      ⟨some 79, none, .mv (.t 7)⟩,
      ⟨some 80, none, .mv (.t 5)⟩,
      ⟨some 81, none, .mv (.t 7)⟩,
      ⟨some 82, none, .ia 1 (.t 80) (.t 81)⟩,
      ⟨some 83, none, .ld (.t 82)⟩,
      ⟨some 84, none, .bin .sub (.t 83) (.k (.i .i64 1))⟩,
      ⟨some 85, none, .ia 1 (.t 78) (.t 79)⟩,
      ⟨none, none, .st 1 (.t 85) (.t 84)⟩])
    (.skip)))
    (.ops [⟨some 86, none, .mv (.t 4)⟩,
      ⟨some 87, none, .mv (.t 7)⟩,
      ⟨some 88, none, .bsl ty_int [.i .i64 0] 1 [(0, 1, .t 87)]⟩,
      ⟨some 89, none, .app ty_int 1 8 (.t 86) (.t 88)⟩,
      ⟨some 4, none, .mv (.t 89)⟩])))))
    (.ops [⟨some 31, none, .mv (.t 6)⟩,
      ⟨some 32, none, .bin .add (.t 31) (.k (.i .i64 1))⟩,
      ⟨some 6, none, .mv (.t 32)⟩]))
def c_spec_Table : LC := .seq (.ops [⟨some 2, none, .mv (.k (.sn))⟩,
      ⟨some 3, none, .mv (.k (.b false))⟩])
    (.seq (.seq (.ops [⟨some 9, none, .mv (.t 0)⟩,
      ⟨some 10, none, .call (.k (.fn n_spec_SetValid [] [])) [.t 9]⟩,
      ⟨some 11, none, .not (.t 10)⟩,
      ⟨some 12, none, .mv (.t 11)⟩,
      ⟨some 13, (some (12, false)), .mv (.t 0)⟩,
      ⟨some 14, (some (12, false)), .call (.k (.fn n_spec_l1Hyper [] [])) [.t 13]⟩,
      ⟨some 15, (some (12, false)), .bin .gtr (.t 14) (.k (.i .i64 720))⟩,
      ⟨some 16, none, .pick (.t 12) (.k (.b true)) (.t 15)⟩,
      ⟨some 17, none, .mv (.t 16)⟩,
      ⟨some 18, (some (17, false)), .mv (.t 0)⟩,
      ⟨some 19, (some (17, false)), .call (.k (.fn n_spec_l2Edf [] [])) [.t 18]⟩,
      ⟨some 20, (some (17, false)), .not (.t 19)⟩,
      ⟨some 21, none, .pick (.t 17) (.k (.b true)) (.t 20)⟩])
    (.cond (.t 21) (.seq (.ops [⟨some 22, none, .bsl ty_int [.i .i64 0] 0 []⟩,
      ⟨some 2, none, .mv (.t 22)⟩,
      ⟨some 3, none, .mv (.k (.b false))⟩])
    (.ret))
    (.skip)))
    (.seq (.ops [⟨some 23, none, .bsl ty_int [.i .i64 0] 0 []⟩,
      ⟨some 4, none, .mv (.t 23)⟩])
    (.seq (.ops [⟨some 24, none, .mv (.t 0)⟩,
      ⟨some 25, none, .len (.t 24)⟩,
      ⟨some 26, none, .msl ty_int 8 [.i .i64 0] (.t 25)⟩,
      ⟨some 5, none, .mv (.t 26)⟩])
    (.seq (.seq (.ops [⟨some 6, none, .mv (.k (.i .i64 0))⟩])
    (.block 0 (.loop l1_spec_Table)))
    (.seq (.ops [⟨some 90, none, .mv (.t 4)⟩,
      ⟨some 2, none, .mv (.t 90)⟩,
      ⟨some 3, none, .mv (.k (.b true))⟩])
    (.ret))))))
theorem k_spec_Table : chkF Try.prog Try.f13 91 c_spec_Table [.t 2, .t 3] = true := by kernel_rfl
theorem call_spec_Table {args : List AV} {σ : List AB} {K : AV → List AB → Prop} (hn : args.length ≤ 91) (hw : wpC Try.prog σ.length 91 c_spec_Table (retP σ.length [.t 2, .t 3] K) ⟨initT 0 args, σ⟩) : CallWp Try.prog n_spec_Table args σ K := call_fn mixed Try.func13 k_spec_Table hn hw

-- loop.example/deadlinescheduler/laws.sameInts
-- region 6 draws, 9 of 9 first
-- l0_laws_sameInts: live at the head: 0 1 5
def l0_laws_sameInts : LC := .seq (.seq (.ops [⟨some 11, none, .mv (.t 5)⟩,
      ⟨some 12, none, .mv (.t 0)⟩,
      ⟨some 13, none, .len (.t 12)⟩,
      ⟨some 14, none, .bin .lss (.t 11) (.t 13)⟩])
    (.cond (.t 14) (.skip)
    (.exit 0)))
    (.seq (.block 1 (.seq (.draw 9 [⟨some 17, none, .mv (.t 0)⟩,
      ⟨some 18, none, .mv (.t 5)⟩,
      ⟨some 19, none, .ia 1 (.t 17) (.t 18)⟩,
      ⟨some 20, none, .ld (.t 19)⟩,
      ⟨some 21, none, .mv (.t 1)⟩,
      ⟨some 22, none, .mv (.t 5)⟩,
      ⟨some 23, none, .ia 1 (.t 21) (.t 22)⟩,
      ⟨some 24, none, .ld (.t 23)⟩,
      ⟨some 25, none, .bin .neq (.t 20) (.t 24)⟩])
    (.cond (.t 25) (.seq (.ops [⟨some 4, none, .mv (.k (.b false))⟩])
    (.ret))
    (.skip))))
    (.ops [⟨some 15, none, .mv (.t 5)⟩,
      ⟨some 16, none, .bin .add (.t 15) (.k (.i .i64 1))⟩,
      ⟨some 5, none, .mv (.t 16)⟩]))
def c_laws_sameInts : LC := .seq (.ops [⟨some 4, none, .mv (.k (.b false))⟩])
    (.seq (.seq (.ops [⟨some 6, none, .mv (.t 0)⟩,
      ⟨some 7, none, .len (.t 6)⟩,
      ⟨some 8, none, .mv (.t 1)⟩,
      ⟨some 9, none, .len (.t 8)⟩,
      ⟨some 10, none, .bin .neq (.t 7) (.t 9)⟩])
    (.cond (.t 10) (.seq (.ops [⟨some 4, none, .mv (.k (.b false))⟩])
    (.ret))
    (.skip)))
    (.seq (.seq (.ops [⟨some 5, none, .mv (.k (.i .i64 0))⟩])
    (.block 0 (.loop l0_laws_sameInts)))
    (.seq (.ops [⟨some 4, none, .mv (.k (.b true))⟩])
    (.ret))))
theorem k_laws_sameInts : chkF Try.prog Try.f14 26 c_laws_sameInts [.t 4] = true := by kernel_rfl
theorem call_laws_sameInts {args : List AV} {σ : List AB} {K : AV → List AB → Prop} (hn : args.length ≤ 26) (hw : wpC Try.prog σ.length 26 c_laws_sameInts (retP σ.length [.t 4] K) ⟨initT 0 args, σ⟩) : CallWp Try.prog n_laws_sameInts args σ K := call_fn mixed Try.func14 k_laws_sameInts hn hw

-- loop.example/deadlinescheduler/impl.EdfFeasible
def c_impl_EdfFeasible : LC := .seq (.ops [⟨some 2, none, .mv (.k (.b false))⟩])
    (.seq (.ops [⟨some 3, none, .mv (.t 0)⟩,
      ⟨some 4, none, .call (.k (.fn n_impl_SetValid [] [])) [.t 3]⟩,
      ⟨some 5, none, .mv (.t 4)⟩,
      ⟨some 6, (some (5, true)), .mv (.t 0)⟩,
      ⟨some 7, (some (5, true)), .call (.k (.fn n_impl_feasible [] [])) [.t 6]⟩,
      ⟨some 8, none, .pick (.t 5) (.t 7) (.k (.b false))⟩,
      ⟨some 2, none, .mv (.t 8)⟩])
    (.ret))
theorem k_impl_EdfFeasible : chkF Try.prog Try.f15 9 c_impl_EdfFeasible [.t 2] = true := by kernel_rfl
theorem call_impl_EdfFeasible {args : List AV} {σ : List AB} {K : AV → List AB → Prop} (hn : args.length ≤ 9) (hw : wpC Try.prog σ.length 9 c_impl_EdfFeasible (retP σ.length [.t 2] K) ⟨initT 0 args, σ⟩) : CallWp Try.prog n_impl_EdfFeasible args σ K := call_fn mixed Try.func15 k_impl_EdfFeasible hn hw

-- loop.example/deadlinescheduler/impl.Hyperperiod
def c_impl_Hyperperiod : LC := .seq (.ops [⟨some 2, none, .mv (.k (.i .i64 0))⟩])
    (.seq (.seq (.ops [⟨some 3, none, .mv (.t 0)⟩,
      ⟨some 4, none, .call (.k (.fn n_impl_SetValid [] [])) [.t 3]⟩,
      ⟨some 5, none, .not (.t 4)⟩])
    (.cond (.t 5) (.seq (.ops [⟨some 2, none, .mv (.k (.i .i64 0))⟩])
    (.ret))
    (.skip)))
    (.seq (.ops [⟨some 6, none, .mv (.t 0)⟩,
      ⟨some 7, none, .call (.k (.fn n_impl_hyper [] [])) [.t 6]⟩,
      ⟨some 2, none, .mv (.t 7)⟩])
    (.ret)))
theorem k_impl_Hyperperiod : chkF Try.prog Try.f16 8 c_impl_Hyperperiod [.t 2] = true := by kernel_rfl
theorem call_impl_Hyperperiod {args : List AV} {σ : List AB} {K : AV → List AB → Prop} (hn : args.length ≤ 8) (hw : wpC Try.prog σ.length 8 c_impl_Hyperperiod (retP σ.length [.t 2] K) ⟨initT 0 args, σ⟩) : CallWp Try.prog n_impl_Hyperperiod args σ K := call_fn mixed Try.func16 k_impl_Hyperperiod hn hw

-- loop.example/deadlinescheduler/laws.alive
def c_laws_alive : LC := .seq (.ops [⟨some 0, none, .mv (.k (.b false))⟩])
    (.seq (.ops [⟨some 1, none, .build [.i .i64 0, .i .i64 0, .i .i64 0] [(0, 1, .k (.i .i64 1)), (1, 1, .k (.i .i64 1)), (2, 1, .k (.i .i64 1))]⟩,
      ⟨some 2, none, .call (.k (.fn n_impl_TaskValid [] [])) [.t 1]⟩,
      ⟨some 0, none, .mv (.t 2)⟩])
    (.ret))
theorem k_laws_alive : chkF Try.prog Try.f17 3 c_laws_alive [.t 0] = true := by kernel_rfl
theorem call_laws_alive {args : List AV} {σ : List AB} {K : AV → List AB → Prop} (hn : args.length ≤ 3) (hw : wpC Try.prog σ.length 3 c_laws_alive (retP σ.length [.t 0] K) ⟨initT 0 args, σ⟩) : CallWp Try.prog n_laws_alive args σ K := call_fn mixed Try.func17 k_laws_alive hn hw

-- loop.example/deadlinescheduler/impl.TableValid
-- l3_impl_TableValid: live at the head: 0 1 29 30 31 75 76 77 78 94 95
-- l2_impl_TableValid: live at the head: 1 42 43 44 75 76 77 78 94 95
-- l1_impl_TableValid: live at the head: 1 7 8 9 42 43 44 75 76 77 78 94 95
-- l0_impl_TableValid: live at the head: 1 7 8 9 10 11 42 43 44 63 64 65 75 76 77 78 94 95
def l0_impl_TableValid : LC := .seq (.ops [⟨some 66, none, .bin .lss (.t 65) (.t 64)⟩])
    (.seq (.cond (.t 66) (.skip)
    (.exit 6))
    (.seq (.block 7 (.seq (.ops [⟨some 67, none, .mv (.t 65)⟩,
      ⟨some 68, none, .ia 1 (.t 63) (.t 65)⟩,
      ⟨some 69, none, .ld (.t 68)⟩,
      ⟨some 12, none, .mv (.t 67)⟩,
      ⟨some 13, none, .mv (.t 69)⟩])
    (.block 8 (.seq (.ops [⟨some 71, none, .mv (.t 13)⟩,
      ⟨some 72, none, .mv (.t 7)⟩,
      ⟨some 73, none, .bin .eql (.t 71) (.t 72)⟩,
      ⟨some 74, none, .mv (.t 73)⟩,
      ⟨some 75, (some (74, true)), .mv (.t 12)⟩,
      ⟨some 76, (some (74, true)), .fa 1 (.t 8)⟩,
      ⟨some 77, (some (74, true)), .ld (.t 76)⟩,
      ⟨some 78, (some (74, true)), .bin .lss (.t 75) (.t 77)⟩,
      ⟨some 79, none, .pick (.t 74) (.t 78) (.k (.b false))⟩,
      ⟨some 70, none, .mv (.t 79)⟩])
    (.cond (.t 70) (.ops [⟨some 80, none, .mv (.t 10)⟩,
      ⟨some 81, none, .bin .add (.t 80) (.k (.i .i64 1))⟩,
      ⟨some 10, none, .mv (.t 81)⟩])
    (.seq (.ops [⟨some 83, none, .mv (.t 13)⟩,
      ⟨some 84, none, .mv (.t 7)⟩,
      ⟨some 85, none, .bin .eql (.t 83) (.t 84)⟩,
      ⟨some 82, none, .mv (.t 85)⟩])
    (.cond (.t 82) (.ops [⟨some 86, none, .mv (.t 11)⟩,
      ⟨some 87, none, .bin .add (.t 86) (.k (.i .i64 1))⟩,
      ⟨some 11, none, .mv (.t 87)⟩])
    (.skip))))))))
    (.ops [⟨some 88, none, .bin .add (.t 65) (.k (.i .i64 1))⟩,
      ⟨some 65, none, .mv (.t 88)⟩])))
def l1_impl_TableValid : LC := .seq (.seq (.ops [⟨some 49, none, .mv (.t 9)⟩,
      ⟨some 50, none, .mv (.t 1)⟩,
      ⟨some 51, none, .len (.t 50)⟩,
      ⟨some 52, none, .bin .lss (.t 49) (.t 51)⟩])
    (.cond (.t 52) (.skip)
    (.exit 4)))
    (.seq (.block 5 (.seq (.ops [⟨some 10, none, .mv (.k (.i .i64 0))⟩,
      ⟨some 11, none, .mv (.k (.i .i64 0))⟩])
    (.seq (.seq (.ops [⟨some 57, none, .mv (.t 1)⟩,
      ⟨some 58, none, .mv (.t 9)⟩,
      ⟨some 59, none, .mv (.t 9)⟩,
      ⟨some 60, none, .fa 2 (.t 8)⟩,
      ⟨some 61, none, .ld (.t 60)⟩,
      ⟨some 62, none, .bin .add (.t 59) (.t 61)⟩,
      ⟨some 63, none, .slc 1 (.t 57) (some (.t 58)) (some (.t 62)) none⟩,
      ⟨some 64, none, .len (.t 63)⟩,
      ⟨some 65, none, .mv (.k (.i .i64 0))⟩])
    (.block 6 (.loop l0_impl_TableValid)))
    (.seq (.ops [⟨some 89, none, .mv (.t 10)⟩,
      ⟨some 90, none, .fa 0 (.t 8)⟩,
      ⟨some 91, none, .ld (.t 90)⟩,
      ⟨some 92, none, .bin .neq (.t 89) (.t 91)⟩,
      ⟨some 93, none, .mv (.t 92)⟩,
      ⟨some 94, (some (93, false)), .mv (.t 11)⟩,
      ⟨some 95, (some (93, false)), .bin .neq (.t 94) (.k (.i .i64 0))⟩,
      ⟨some 96, none, .pick (.t 93) (.k (.b true)) (.t 95)⟩])
    (.cond (.t 96) (.seq (.ops [⟨some 4, none, .mv (.k (.b false))⟩])
    (.ret))
    (.skip))))))
    (.ops [⟨some 53, none, .mv (.t 9)⟩,
      ⟨some 54, none, .fa 2 (.t 8)⟩,
      ⟨some 55, none, .ld (.t 54)⟩,
      ⟨some 56, none, .bin .add (.t 53) (.t 55)⟩,
      ⟨some 9, none, .mv (.t 56)⟩]))
def l2_impl_TableValid : LC := .seq (.ops [⟨some 45, none, .bin .lss (.t 44) (.t 43)⟩])
    (.seq (.cond (.t 45) (.skip)
    (.exit 2))
    (.seq (.block 3 (.seq (.ops [⟨some 46, none, .mv (.t 44)⟩,
      ⟨some 47, none, .ia 3 (.t 42) (.t 44)⟩,
      ⟨some 48, none, .ldn 3 (.t 47)⟩,
      ⟨some 8, none, .alloc ty_impl_Task [.i .i64 0, .i .i64 0, .i .i64 0]⟩,
      ⟨some 7, none, .mv (.t 46)⟩,
      ⟨none, none, .st 3 (.t 8) (.t 48)⟩])
    (.seq (.ops [⟨some 9, none, .mv (.k (.i .i64 0))⟩])
    (.block 4 (.loop l1_impl_TableValid)))))
    (.ops [⟨some 97, none, .bin .add (.t 44) (.k (.i .i64 1))⟩,
      ⟨some 44, none, .mv (.t 97)⟩])))
def l3_impl_TableValid : LC := .seq (.ops [⟨some 32, none, .bin .lss (.t 31) (.t 30)⟩])
    (.seq (.cond (.t 32) (.skip)
    (.exit 0))
    (.seq (.block 1 (.seq (.ops [⟨some 33, none, .ia 1 (.t 29) (.t 31)⟩,
      ⟨some 34, none, .ld (.t 33)⟩,
      ⟨some 6, none, .mv (.t 34)⟩])
    (.seq (.ops [⟨some 35, none, .mv (.t 6)⟩,
      ⟨some 36, none, .mv (.t 0)⟩,
      ⟨some 37, none, .len (.t 36)⟩,
      ⟨some 38, none, .bin .sub (.t 37) (.k (.i .i64 1))⟩,
      ⟨some 39, none, .call (.k (.fn n_impl_in [] [])) [.t 35, .k (.i .i64 (-1)), .t 38]⟩,
      ⟨some 40, none, .not (.t 39)⟩])
    (.cond (.t 40) (.seq (.ops [⟨some 4, none, .mv (.k (.b false))⟩])
    (.ret))
    (.skip)))))
    (.ops [⟨some 41, none, .bin .add (.t 31) (.k (.i .i64 1))⟩,
      ⟨some 31, none, .mv (.t 41)⟩])))
def c_impl_TableValid : LC := .seq (.ops [⟨some 4, none, .mv (.k (.b false))⟩])
    (.seq (.seq (.ops [⟨some 14, none, .mv (.t 0)⟩,
      ⟨some 15, none, .call (.k (.fn n_impl_SetValid [] [])) [.t 14]⟩,
      ⟨some 16, none, .not (.t 15)⟩,
      ⟨some 17, none, .mv (.t 16)⟩,
      ⟨some 18, (some (17, false)), .mv (.t 1)⟩,
      ⟨some 19, (some (17, false)), .len (.t 18)⟩,
      ⟨some 20, (some (17, false)), .mv (.t 0)⟩,
      ⟨some 21, (some (17, false)), .call (.k (.fn n_impl_hyper [] [])) [.t 20]⟩,
      ⟨some 22, (some (17, false)), .bin .neq (.t 19) (.t 21)⟩,
      ⟨some 23, none, .pick (.t 17) (.k (.b true)) (.t 22)⟩,
      ⟨some 24, none, .mv (.t 23)⟩,
      ⟨some 25, (some (24, false)), .mv (.t 1)⟩,
      ⟨some 26, (some (24, false)), .len (.t 25)⟩,
      ⟨some 27, (some (24, false)), .bin .gtr (.t 26) (.k (.i .i64 720))⟩,
      ⟨some 28, none, .pick (.t 24) (.k (.b true)) (.t 27)⟩])
    (.cond (.t 28) (.seq (.ops [⟨some 4, none, .mv (.k (.b false))⟩])
    (.ret))
    (.skip)))
    (.seq (.seq (.ops [⟨some 29, none, .mv (.t 1)⟩,
      ⟨some 30, none, .len (.t 29)⟩,
      ⟨some 31, none, .mv (.k (.i .i64 0))⟩])
    (.block 0 (.loop l3_impl_TableValid)))
    (.seq (.seq (.ops [⟨some 42, none, .mv (.t 0)⟩,
      ⟨some 43, none, .len (.t 42)⟩,
      ⟨some 44, none, .mv (.k (.i .i64 0))⟩])
    (.block 2 (.loop l2_impl_TableValid)))
    (.seq (.ops [⟨some 4, none, .mv (.k (.b true))⟩])
    (.ret)))))
theorem k_impl_TableValid : chkF Try.prog Try.f18 98 c_impl_TableValid [.t 4] = true := by kernel_rfl
theorem call_impl_TableValid {args : List AV} {σ : List AB} {K : AV → List AB → Prop} (hn : args.length ≤ 98) (hw : wpC Try.prog σ.length 98 c_impl_TableValid (retP σ.length [.t 4] K) ⟨initT 0 args, σ⟩) : CallWp Try.prog n_impl_TableValid args σ K := call_fn mixed Try.func18 k_impl_TableValid hn hw

-- loop.example/deadlinescheduler/impl.Synchronous
-- l1_impl_Synchronous: live at the head: 0 1 5 6 35 36 37 38 39 40 43 44 45
-- l0_impl_Synchronous: live at the head: 0 1 5 6 22 23 24 35 36 37 38 39 40 43 44 45
def l0_impl_Synchronous : LC := .seq (.ops [⟨some 25, none, .bin .lss (.t 24) (.t 23)⟩])
    (.seq (.cond (.t 25) (.skip)
    (.exit 2))
    (.seq (.block 3 (.seq (.ops [⟨some 26, none, .mv (.t 24)⟩,
      ⟨some 27, none, .ia 3 (.t 22) (.t 24)⟩,
      ⟨some 28, none, .ldn 3 (.t 27)⟩,
      ⟨some 8, none, .alloc ty_impl_Task [.i .i64 0, .i .i64 0, .i .i64 0]⟩,
      ⟨some 7, none, .mv (.t 26)⟩,
      ⟨none, none, .st 3 (.t 8) (.t 28)⟩])
    (.seq (.ops [⟨some 29, none, .mv (.t 6)⟩,
      ⟨some 30, none, .fa 2 (.t 8)⟩,
      ⟨some 31, none, .ld (.t 30)⟩,
      ⟨some 32, none, .bin .rem (.t 29) (.t 31)⟩,
      ⟨some 33, none, .bin .eql (.t 32) (.k (.i .i64 0))⟩,
      ⟨some 34, none, .mv (.t 33)⟩,
      ⟨some 35, (some (34, true)), .mv (.t 6)⟩,
      ⟨some 36, (some (34, true)), .fa 1 (.t 8)⟩,
      ⟨some 37, (some (34, true)), .ld (.t 36)⟩,
      ⟨some 38, (some (34, true)), .bin .add (.t 35) (.t 37)⟩,
      ⟨some 39, (some (34, true)), .mv (.t 1)⟩,
      ⟨some 40, (some (34, true)), .bin .leq (.t 38) (.t 39)⟩,
      ⟨some 41, none, .pick (.t 34) (.t 40) (.k (.b false))⟩,
      ⟨some 42, none, .mv (.t 41)⟩,
      ⟨some 43, (some (42, true)), .mv (.t 5)⟩,
      ⟨some 44, (some (42, true)), .len (.t 43)⟩,
      ⟨some 45, (some (42, true)), .bin .lss (.t 44) (.k (.i .i64 60))⟩,
      ⟨some 46, none, .pick (.t 42) (.t 45) (.k (.b false))⟩])
    (.cond (.t 46) (.ops [⟨some 47, none, .mv (.t 5)⟩,
      ⟨some 48, none, .mv (.t 7)⟩,
      ⟨some 49, none, .mv (.t 6)⟩,
      ⟨some 50, none, .mv (.t 6)⟩,
      ⟨some 51, none, .fa 1 (.t 8)⟩,
      ⟨some 52, none, .ld (.t 51)⟩,
      ⟨some 53, none, .bin .add (.t 50) (.t 52)⟩,
      ⟨some 54, none, .fa 0 (.t 8)⟩,
      ⟨some 55, none, .ld (.t 54)⟩,
      ⟨some 56, none, .build [.i .i64 0, .i .i64 0, .i .i64 0, .i .i64 0] [(0, 1, .t 48), (1, 1, .t 49), (2, 1, .t 53), (3, 1, .t 55)]⟩,
      ⟨some 57, none, .bsl ty_impl_Job [.i .i64 0, .i .i64 0, .i .i64 0, .i .i64 0] 1 [(0, 4, .t 56)]⟩,
      ⟨some 58, none, .app ty_impl_Job 4 32 (.t 47) (.t 57)⟩,
      ⟨some 5, none, .mv (.t 58)⟩])
    (.skip)))))
    (.ops [⟨some 59, none, .bin .add (.t 24) (.k (.i .i64 1))⟩,
      ⟨some 24, none, .mv (.t 59)⟩])))
def l1_impl_Synchronous : LC := .seq (.seq (.ops [⟨some 17, none, .mv (.t 6)⟩,
      ⟨some 18, none, .mv (.t 1)⟩,
      ⟨some 19, none, .bin .lss (.t 17) (.t 18)⟩])
    (.cond (.t 19) (.skip)
    (.exit 0)))
    (.seq (.block 1 (.seq (.ops [⟨some 22, none, .mv (.t 0)⟩,
      ⟨some 23, none, .len (.t 22)⟩,
      ⟨some 24, none, .mv (.k (.i .i64 0))⟩])
    (.block 2 (.loop l0_impl_Synchronous))))
    (.ops [⟨some 20, none, .mv (.t 6)⟩,
      ⟨some 21, none, .bin .add (.t 20) (.k (.i .i64 1))⟩,
      ⟨some 6, none, .mv (.t 21)⟩]))
def c_impl_Synchronous : LC := .seq (.ops [⟨some 4, none, .mv (.k (.sn))⟩])
    (.seq (.seq (.ops [⟨some 9, none, .mv (.t 0)⟩,
      ⟨some 10, none, .call (.k (.fn n_impl_SetValid [] [])) [.t 9]⟩,
      ⟨some 11, none, .not (.t 10)⟩,
      ⟨some 12, none, .mv (.t 11)⟩,
      ⟨some 13, (some (12, false)), .mv (.t 1)⟩,
      ⟨some 14, (some (12, false)), .call (.k (.fn n_impl_in [] [])) [.t 13, .k (.i .i64 0), .k (.i .i64 120)]⟩,
      ⟨some 15, (some (12, false)), .not (.t 14)⟩,
      ⟨some 16, none, .pick (.t 12) (.k (.b true)) (.t 15)⟩])
    (.cond (.t 16) (.seq (.ops [⟨some 4, none, .mv (.k (.sn))⟩])
    (.ret))
    (.skip)))
    (.seq (.ops [⟨some 5, none, .mv (.k (.sn))⟩])
    (.seq (.seq (.ops [⟨some 6, none, .mv (.k (.i .i64 0))⟩])
    (.block 0 (.loop l1_impl_Synchronous)))
    (.seq (.ops [⟨some 60, none, .mv (.t 5)⟩,
      ⟨some 61, none, .call (.k (.fn n_slices_Clip_impl_Job [] [])) [.t 60]⟩,
      ⟨some 4, none, .mv (.t 61)⟩])
    (.ret)))))
theorem k_impl_Synchronous : chkF Try.prog Try.f19 62 c_impl_Synchronous [.t 4] = true := by kernel_rfl
theorem call_impl_Synchronous {args : List AV} {σ : List AB} {K : AV → List AB → Prop} (hn : args.length ≤ 62) (hw : wpC Try.prog σ.length 62 c_impl_Synchronous (retP σ.length [.t 4] K) ⟨initT 0 args, σ⟩) : CallWp Try.prog n_impl_Synchronous args σ K := call_fn mixed Try.func19 k_impl_Synchronous hn hw

-- loop.example/deadlinescheduler/impl.RunEdf
def c_impl_RunEdf : LC := .seq (.ops [⟨some 4, none, .alloc ty_impl_Schedule [.sn, .sn]⟩])
    (.seq (.seq (.ops [⟨some 5, none, .mv (.t 0)⟩,
      ⟨some 6, none, .mv (.t 1)⟩,
      ⟨some 7, none, .call (.k (.fn n_impl_JobsLegal [] [])) [.t 5, .t 6]⟩,
      ⟨some 8, none, .not (.t 7)⟩])
    (.cond (.t 8) (.seq (.ops [⟨some 9, none, .build [.sn, .sn] []⟩,
      ⟨none, none, .st 2 (.t 4) (.t 9)⟩])
    (.ret))
    (.skip)))
    (.seq (.ops [⟨some 10, none, .mv (.t 1)⟩,
      ⟨some 11, none, .call (.k (.fn n_impl_simulate [] [])) [.t 10, .k (.fn n_impl_edf [] [])]⟩,
      ⟨none, none, .st 2 (.t 4) (.t 11)⟩])
    (.ret)))
theorem k_impl_RunEdf : chkF Try.prog Try.f20 12 c_impl_RunEdf [.c 4 (some 2)] = true := by kernel_rfl
theorem call_impl_RunEdf {args : List AV} {σ : List AB} {K : AV → List AB → Prop} (hn : args.length ≤ 12) (hw : wpC Try.prog σ.length 12 c_impl_RunEdf (retP σ.length [.c 4 (some 2)] K) ⟨initT 0 args, σ⟩) : CallWp Try.prog n_impl_RunEdf args σ K := call_fn mixed Try.func20 k_impl_RunEdf hn hw

-- loop.example/deadlinescheduler/spec.DrawFirstFit
def c_spec_DrawFirstFit : LC := .seq (.ops [⟨some 2, none, .mv (.k (.sn))⟩,
      ⟨some 3, none, .mv (.k (.i .i64 0))⟩])
    (.seq (.ops [⟨some 5, none, .mv (.t 0)⟩,
      ⟨some 6, none, .call (.k (.fn n_spec_l20Open [] [])) [.t 5]⟩,
      ⟨some 4, none, .mv (.t 6)⟩])
    (.seq (.ops [⟨some 7, none, .mv (.t 4)⟩,
      ⟨some 8, none, .call (.k (.fn n_spec_l20Set [] [])) [.t 7, .k (.i .i64 16)]⟩,
      ⟨some 9, none, .mv (.t 4)⟩,
      ⟨some 10, none, .call (.k (.fn n_spec_l20Cores [] [])) [.t 9, .k (.i .i64 12)]⟩,
      ⟨some 2, none, .mv (.t 8)⟩,
      ⟨some 3, none, .mv (.t 10)⟩])
    (.ret)))
theorem k_spec_DrawFirstFit : chkF Try.prog Try.f21 11 c_spec_DrawFirstFit [.t 2, .t 3] = true := by kernel_rfl
theorem call_spec_DrawFirstFit {args : List AV} {σ : List AB} {K : AV → List AB → Prop} (hn : args.length ≤ 11) (hw : wpC Try.prog σ.length 11 c_spec_DrawFirstFit (retP σ.length [.t 2, .t 3] K) ⟨initT 0 args, σ⟩) : CallWp Try.prog n_spec_DrawFirstFit args σ K := call_fn mixed Try.func21 k_spec_DrawFirstFit hn hw

-- loop.example/deadlinescheduler/impl.FirstFit
-- region 10: a plan with 2 orders
-- a cut
-- l1_impl_FirstFit: live at the head: 0 1 6 21 22 29 30 31 32 33
-- l0_impl_FirstFit: live at the head: 0 1 6 7 8 21 22 29 30 31 32 33
def l0_impl_FirstFit : LC := .seq (.seq (.ops [⟨some 25, none, .mv (.t 8)⟩,
      ⟨some 26, none, .mv (.t 1)⟩,
      ⟨some 27, none, .bin .lss (.t 25) (.t 26)⟩,
      ⟨some 28, none, .mv (.t 27)⟩,
      ⟨some 29, (some (28, true)), .mv (.t 6)⟩,
      ⟨some 30, (some (28, true)), .mv (.t 7)⟩,
      ⟨some 31, (some (28, true)), .ia 1 (.t 29) (.t 30)⟩,
      ⟨some 32, (some (28, true)), .ld (.t 31)⟩,
      ⟨some 33, (some (28, true)), .bin .lss (.t 32) (.k (.i .i64 0))⟩,
      ⟨some 34, none, .pick (.t 28) (.t 33) (.k (.b false))⟩])
    (.cond (.t 34) (.skip)
    (.exit 2)))
    (.seq (.block 3 (.join (.plan [0, 1, 2, 4, 5, 6, 7] [⟨some 37, none, .mv (.t 0)⟩,
      ⟨some 38, none, .mv (.t 6)⟩,
      ⟨some 39, none, .mv (.t 8)⟩,
      ⟨some 41, none, .mv (.t 0)⟩,
      ⟨some 42, none, .mv (.t 7)⟩,
      ⟨some 43, none, .ia 3 (.t 41) (.t 42)⟩,
      ⟨some 44, none, .ldn 3 (.t 43)⟩]
      (.alt (.one 3 ⟨some 40, none, .call (.k (.fn n_impl_onCore [] [])) [.t 37, .t 38, .t 39]⟩ [(44, some 3, 43)] []
        []
      (.one 8 ⟨some 45, none, .bsl ty_impl_Task [.i .i64 0, .i .i64 0, .i .i64 0] 1 [(0, 3, .t 44)]⟩ [] []
        []
      (.one 9 ⟨some 46, none, .appf ty_impl_Task 3 24 (.t 40) (.t 45)⟩ [(44, some 3, 43)] []
        []
      (.one 10 ⟨some 47, none, .call (.k (.fn n_impl_feasible [] [])) [.t 46]⟩ [(44, some 3, 43)] []
        []
      .fin)))) (.one 8 ⟨some 45, none, .bsl ty_impl_Task [.i .i64 0, .i .i64 0, .i .i64 0] 1 [(0, 3, .t 44)]⟩ [] []
        []
      (.one 3 ⟨some 40, none, .call (.k (.fn n_impl_onCore [] [])) [.t 37, .t 38, .t 39]⟩ [(44, some 3, 43)] []
        []
      (.one 9 ⟨some 46, none, .appf ty_impl_Task 3 24 (.t 40) (.t 45)⟩ [(44, some 3, 43)] []
        []
      (.one 10 ⟨some 47, none, .call (.k (.fn n_impl_feasible [] [])) [.t 46]⟩ [(44, some 3, 43)] []
        []
      .fin))))))
    (.cond (.t 47) (.ops [⟨some 48, none, .mv (.t 6)⟩,
      ⟨some 49, none, .mv (.t 7)⟩,
      ⟨some 50, none, .mv (.t 8)⟩,
      ⟨some 51, none, .ia 1 (.t 48) (.t 49)⟩,
      ⟨none, none, .st 1 (.t 51) (.t 50)⟩])
    (.skip))))
    (.ops [⟨some 35, none, .mv (.t 8)⟩,
      ⟨some 36, none, .bin .add (.t 35) (.k (.i .i64 1))⟩,
      ⟨some 8, none, .mv (.t 36)⟩]))
def l1_impl_FirstFit : LC := .seq (.ops [⟨some 23, none, .bin .lss (.t 22) (.t 21)⟩])
    (.seq (.cond (.t 23) (.skip)
    (.exit 0))
    (.seq (.block 1 (.seq (.ops [⟨some 24, none, .mv (.t 22)⟩,
      ⟨some 7, none, .mv (.t 24)⟩])
    (.seq (.seq (.ops [⟨some 8, none, .mv (.k (.i .i64 0))⟩])
    (.block 2 (.loop l0_impl_FirstFit)))
    (.seq (.ops [⟨some 52, none, .mv (.t 6)⟩,
      ⟨some 53, none, .mv (.t 7)⟩,
      ⟨some 54, none, .ia 1 (.t 52) (.t 53)⟩,
      ⟨some 55, none, .ld (.t 54)⟩,
      ⟨some 56, none, .bin .lss (.t 55) (.k (.i .i64 0))⟩])
    (.cond (.t 56) (.seq (.ops [⟨some 4, none, .mv (.k (.sn))⟩,
      ⟨some 5, none, .mv (.k (.b false))⟩])
    (.ret))
    (.skip))))))
    (.ops [⟨some 57, none, .bin .add (.t 22) (.k (.i .i64 1))⟩,
      ⟨some 22, none, .mv (.t 57)⟩])))
def c_impl_FirstFit : LC := .seq (.ops [⟨some 4, none, .mv (.k (.sn))⟩,
      ⟨some 5, none, .mv (.k (.b false))⟩])
    (.seq (.seq (.ops [⟨some 9, none, .mv (.t 0)⟩,
      ⟨some 10, none, .call (.k (.fn n_impl_SetValid [] [])) [.t 9]⟩,
      ⟨some 11, none, .not (.t 10)⟩,
      ⟨some 12, none, .mv (.t 11)⟩,
      ⟨some 13, (some (12, false)), .mv (.t 1)⟩,
      ⟨some 14, (some (12, false)), .call (.k (.fn n_impl_isCores [] [])) [.t 13]⟩,
      ⟨some 15, (some (12, false)), .not (.t 14)⟩,
      ⟨some 16, none, .pick (.t 12) (.k (.b true)) (.t 15)⟩])
    (.cond (.t 16) (.seq (.ops [⟨some 4, none, .mv (.k (.sn))⟩,
      ⟨some 5, none, .mv (.k (.b false))⟩])
    (.ret))
    (.skip)))
    (.seq (.ops [⟨some 17, none, .mv (.t 0)⟩,
      ⟨some 18, none, .len (.t 17)⟩,
      ⟨some 19, none, .call (.k (.fn n_impl_none [] [])) [.t 18]⟩,
      ⟨some 6, none, .mv (.t 19)⟩])
    (.seq (.seq (.ops [⟨some 20, none, .mv (.t 0)⟩,
      ⟨some 21, none, .len (.t 20)⟩,
      ⟨some 22, none, .mv (.k (.i .i64 0))⟩])
    (.block 0 (.loop l1_impl_FirstFit)))
    (.seq (.ops [⟨some 58, none, .mv (.t 6)⟩,
      ⟨some 4, none, .mv (.t 58)⟩,
      ⟨some 5, none, .mv (.k (.b true))⟩])
    (.ret)))))
theorem k_impl_FirstFit : chkF Try.prog Try.f22 59 c_impl_FirstFit [.t 4, .t 5] = true := by kernel_rfl
theorem call_impl_FirstFit {args : List AV} {σ : List AB} {K : AV → List AB → Prop} (hn : args.length ≤ 59) (hw : wpC Try.prog σ.length 59 c_impl_FirstFit (retP σ.length [.t 4, .t 5] K) ⟨initT 0 args, σ⟩) : CallWp Try.prog n_impl_FirstFit args σ K := call_fn mixed Try.func22 k_impl_FirstFit hn hw

-- loop.example/deadlinescheduler/spec.FirstFit
-- l0_spec_FirstFit: live at the head: 0 1 6 7
def l0_spec_FirstFit : LC := .seq (.seq (.ops [⟨some 19, none, .mv (.t 7)⟩,
      ⟨some 20, none, .mv (.t 0)⟩,
      ⟨some 21, none, .len (.t 20)⟩,
      ⟨some 22, none, .bin .lss (.t 19) (.t 21)⟩])
    (.cond (.t 22) (.skip)
    (.exit 0)))
    (.seq (.block 1 (.seq (.ops [⟨some 25, none, .mv (.t 0)⟩,
      ⟨some 26, none, .mv (.t 1)⟩,
      ⟨some 27, none, .mv (.t 6)⟩,
      ⟨some 28, none, .mv (.t 7)⟩,
      ⟨some 29, none, .call (.k (.fn n_spec_l7First [] [])) [.t 25, .t 26, .t 27, .t 28]⟩,
      ⟨some 8, none, .mv (.t 29)⟩])
    (.seq (.seq (.ops [⟨some 30, none, .mv (.t 8)⟩,
      ⟨some 31, none, .bin .lss (.t 30) (.k (.i .i64 0))⟩])
    (.cond (.t 31) (.seq (.ops [⟨some 32, none, .bsl ty_int [.i .i64 0] 0 []⟩,
      ⟨some 4, none, .mv (.t 32)⟩,
      ⟨some 5, none, .mv (.k (.b false))⟩])
    (.ret))
    (.skip)))
    (.ops [⟨some 33, none, .mv (.t 6)⟩,
      ⟨some 34, none, .mv (.t 8)⟩,
      ⟨some 35, none, .bsl ty_int [.i .i64 0] 1 [(0, 1, .t 34)]⟩,
      ⟨some 36, none, .app ty_int 1 8 (.t 33) (.t 35)⟩,
      ⟨some 6, none, .mv (.t 36)⟩]))))
    (.ops [⟨some 23, none, .mv (.t 7)⟩,
      ⟨some 24, none, .bin .add (.t 23) (.k (.i .i64 1))⟩,
      ⟨some 7, none, .mv (.t 24)⟩]))
def c_spec_FirstFit : LC := .seq (.ops [⟨some 4, none, .mv (.k (.sn))⟩,
      ⟨some 5, none, .mv (.k (.b false))⟩])
    (.seq (.seq (.ops [⟨some 9, none, .mv (.t 0)⟩,
      ⟨some 10, none, .call (.k (.fn n_spec_SetValid [] [])) [.t 9]⟩,
      ⟨some 11, none, .not (.t 10)⟩,
      ⟨some 12, none, .mv (.t 11)⟩,
      ⟨some 13, (some (12, false)), .mv (.t 1)⟩,
      ⟨some 14, (some (12, false)), .call (.k (.fn n_spec_l1In [] [])) [.t 13, .k (.i .i64 1), .k (.i .i64 5)]⟩,
      ⟨some 15, (some (12, false)), .not (.t 14)⟩,
      ⟨some 16, none, .pick (.t 12) (.k (.b true)) (.t 15)⟩])
    (.cond (.t 16) (.seq (.ops [⟨some 17, none, .bsl ty_int [.i .i64 0] 0 []⟩,
      ⟨some 4, none, .mv (.t 17)⟩,
      ⟨some 5, none, .mv (.k (.b false))⟩])
    (.ret))
    (.skip)))
    (.seq (.ops [⟨some 18, none, .bsl ty_int [.i .i64 0] 0 []⟩,
      ⟨some 6, none, .mv (.t 18)⟩])
    (.seq (.seq (.ops [⟨some 7, none, .mv (.k (.i .i64 0))⟩])
    (.block 0 (.loop l0_spec_FirstFit)))
    (.seq (.ops [⟨some 37, none, .mv (.t 6)⟩,
      ⟨some 4, none, .mv (.t 37)⟩,
      ⟨some 5, none, .mv (.k (.b true))⟩])
    (.ret)))))
theorem k_spec_FirstFit : chkF Try.prog Try.f23 38 c_spec_FirstFit [.t 4, .t 5] = true := by kernel_rfl
theorem call_spec_FirstFit {args : List AV} {σ : List AB} {K : AV → List AB → Prop} (hn : args.length ≤ 38) (hw : wpC Try.prog σ.length 38 c_spec_FirstFit (retP σ.length [.t 4, .t 5] K) ⟨initT 0 args, σ⟩) : CallWp Try.prog n_spec_FirstFit args σ K := call_fn mixed Try.func23 k_spec_FirstFit hn hw

-- loop.example/deadlinescheduler/impl.AssignmentFeasible
-- l0_impl_AssignmentFeasible: live at the head: 0 2 13 14
def l0_impl_AssignmentFeasible : LC := .seq (.ops [⟨some 15, none, .bin .lss (.t 14) (.t 13)⟩])
    (.seq (.cond (.t 15) (.skip)
    (.exit 0))
    (.seq (.block 1 (.seq (.ops [⟨some 16, none, .mv (.t 14)⟩,
      ⟨some 7, none, .mv (.t 16)⟩])
    (.seq (.ops [⟨some 17, none, .mv (.t 0)⟩,
      ⟨some 18, none, .mv (.t 2)⟩,
      ⟨some 19, none, .mv (.t 7)⟩,
      ⟨some 20, none, .call (.k (.fn n_impl_onCore [] [])) [.t 17, .t 18, .t 19]⟩,
      ⟨some 21, none, .call (.k (.fn n_impl_feasible [] [])) [.t 20]⟩,
      ⟨some 22, none, .not (.t 21)⟩])
    (.cond (.t 22) (.seq (.ops [⟨some 6, none, .mv (.k (.b false))⟩])
    (.ret))
    (.skip)))))
    (.ops [⟨some 23, none, .bin .add (.t 14) (.k (.i .i64 1))⟩,
      ⟨some 14, none, .mv (.t 23)⟩])))
def c_impl_AssignmentFeasible : LC := .seq (.ops [⟨some 6, none, .mv (.k (.b false))⟩])
    (.seq (.seq (.ops [⟨some 8, none, .mv (.t 0)⟩,
      ⟨some 9, none, .mv (.t 1)⟩,
      ⟨some 10, none, .mv (.t 2)⟩,
      ⟨some 11, none, .call (.k (.fn n_impl_AssignmentValid [] [])) [.t 8, .t 9, .t 10]⟩,
      ⟨some 12, none, .not (.t 11)⟩])
    (.cond (.t 12) (.seq (.ops [⟨some 6, none, .mv (.k (.b false))⟩])
    (.ret))
    (.skip)))
    (.seq (.seq (.ops [⟨some 13, none, .mv (.t 1)⟩,
      ⟨some 14, none, .mv (.k (.i .i64 0))⟩])
    (.block 0 (.loop l0_impl_AssignmentFeasible)))
    (.seq (.ops [⟨some 6, none, .mv (.k (.b true))⟩])
    (.ret))))
theorem k_impl_AssignmentFeasible : chkF Try.prog Try.f24 24 c_impl_AssignmentFeasible [.t 6] = true := by kernel_rfl
theorem call_impl_AssignmentFeasible {args : List AV} {σ : List AB} {K : AV → List AB → Prop} (hn : args.length ≤ 24) (hw : wpC Try.prog σ.length 24 c_impl_AssignmentFeasible (retP σ.length [.t 6] K) ⟨initT 0 args, σ⟩) : CallWp Try.prog n_impl_AssignmentFeasible args σ K := call_fn mixed Try.func24 k_impl_AssignmentFeasible hn hw

-- loop.example/deadlinescheduler/spec.DrawMinCores
def c_spec_DrawMinCores : LC := .seq (.ops [⟨some 2, none, .mv (.k (.sn))⟩])
    (.seq (.ops [⟨some 3, none, .mv (.t 0)⟩,
      ⟨some 4, none, .call (.k (.fn n_spec_l20Open [] [])) [.t 3]⟩,
      ⟨some 5, none, .call (.k (.fn n_spec_l20Set [] [])) [.t 4, .k (.i .i64 12)]⟩,
      ⟨some 2, none, .mv (.t 5)⟩])
    (.ret))
theorem k_spec_DrawMinCores : chkF Try.prog Try.f25 6 c_spec_DrawMinCores [.t 2] = true := by kernel_rfl
theorem call_spec_DrawMinCores {args : List AV} {σ : List AB} {K : AV → List AB → Prop} (hn : args.length ≤ 6) (hw : wpC Try.prog σ.length 6 c_spec_DrawMinCores (retP σ.length [.t 2] K) ⟨initT 0 args, σ⟩) : CallWp Try.prog n_spec_DrawMinCores args σ K := call_fn mixed Try.func25 k_spec_DrawMinCores hn hw

-- loop.example/deadlinescheduler/impl.MinCores
-- l0_impl_MinCores: live at the head: 0 3
def l0_impl_MinCores : LC := .seq (.seq (.ops [⟨some 9, none, .mv (.t 3)⟩,
      ⟨some 10, none, .bin .lss (.t 9) (.k (.i .i64 5))⟩])
    (.cond (.t 10) (.skip)
    (.exit 0)))
    (.seq (.block 1 (.seq (.ops [⟨some 14, none, .mv (.t 0)⟩,
      ⟨some 15, none, .mv (.t 3)⟩,
      ⟨some 16, none, .call (.k (.fn n_impl_Partition [] [])) [.t 14, .t 15]⟩,
      ⟨some 13, none, .mv (.t 16)⟩,
      ⟨some 17, none, .ext 0 (.t 13)⟩,
      ⟨some 18, none, .ext 1 (.t 13)⟩,
      ⟨some 4, none, .mv (.t 17)⟩,
      ⟨some 5, none, .mv (.t 18)⟩])
    (.seq (.ops [⟨some 19, none, .mv (.t 5)⟩])
    (.cond (.t 19) (.seq (.ops [⟨some 20, none, .mv (.t 3)⟩,
      ⟨some 2, none, .mv (.t 20)⟩])
    (.ret))
    (.skip)))))
    (.ops [⟨some 11, none, .mv (.t 3)⟩,
      ⟨some 12, none, .bin .add (.t 11) (.k (.i .i64 1))⟩,
      ⟨some 3, none, .mv (.t 12)⟩]))
def c_impl_MinCores : LC := .seq (.ops [⟨some 2, none, .mv (.k (.i .i64 0))⟩])
    (.seq (.seq (.ops [⟨some 6, none, .mv (.t 0)⟩,
      ⟨some 7, none, .call (.k (.fn n_impl_SetValid [] [])) [.t 6]⟩,
      ⟨some 8, none, .not (.t 7)⟩])
    (.cond (.t 8) (.seq (.ops [⟨some 2, none, .mv (.k (.i .i64 0))⟩])
    (.ret))
    (.skip)))
    (.seq (.seq (.ops [⟨some 3, none, .mv (.k (.i .i64 1))⟩])
    (.block 0 (.loop l0_impl_MinCores)))
    (.seq (.ops [⟨some 2, none, .mv (.k (.i .i64 5))⟩])
    (.ret))))
theorem k_impl_MinCores : chkF Try.prog Try.f26 21 c_impl_MinCores [.t 2] = true := by kernel_rfl
theorem call_impl_MinCores {args : List AV} {σ : List AB} {K : AV → List AB → Prop} (hn : args.length ≤ 21) (hw : wpC Try.prog σ.length 21 c_impl_MinCores (retP σ.length [.t 2] K) ⟨initT 0 args, σ⟩) : CallWp Try.prog n_impl_MinCores args σ K := call_fn mixed Try.func26 k_impl_MinCores hn hw

-- loop.example/deadlinescheduler/spec.MinCores
-- l0_spec_MinCores: live at the head: 0 3
def l0_spec_MinCores : LC := .seq (.seq (.ops [⟨some 9, none, .mv (.t 3)⟩,
      ⟨some 10, none, .bin .lss (.t 9) (.k (.i .i64 5))⟩])
    (.cond (.t 10) (.skip)
    (.exit 0)))
    (.seq (.block 1 (.seq (.ops [⟨some 14, none, .mv (.t 0)⟩,
      ⟨some 15, none, .mv (.t 3)⟩,
      ⟨some 16, none, .bsl ty_int [.i .i64 0] 0 []⟩,
      ⟨some 17, none, .call (.k (.fn n_spec_l7Search [] [])) [.t 14, .t 15, .t 16]⟩,
      ⟨some 13, none, .mv (.t 17)⟩,
      ⟨some 18, none, .ext 0 (.t 13)⟩,
      ⟨some 19, none, .ext 1 (.t 13)⟩,
      ⟨some 4, none, .mv (.t 18)⟩,
      ⟨some 5, none, .mv (.t 19)⟩])
    (.seq (.ops [⟨some 20, none, .mv (.t 5)⟩])
    (.cond (.t 20) (.seq (.ops [⟨some 21, none, .mv (.t 3)⟩,
      ⟨some 2, none, .mv (.t 21)⟩])
    (.ret))
    (.skip)))))
    (.ops [⟨some 11, none, .mv (.t 3)⟩,
      ⟨some 12, none, .bin .add (.t 11) (.k (.i .i64 1))⟩,
      ⟨some 3, none, .mv (.t 12)⟩]))
def c_spec_MinCores : LC := .seq (.ops [⟨some 2, none, .mv (.k (.i .i64 0))⟩])
    (.seq (.seq (.ops [⟨some 6, none, .mv (.t 0)⟩,
      ⟨some 7, none, .call (.k (.fn n_spec_SetValid [] [])) [.t 6]⟩,
      ⟨some 8, none, .not (.t 7)⟩])
    (.cond (.t 8) (.seq (.ops [⟨some 2, none, .mv (.k (.i .i64 0))⟩])
    (.ret))
    (.skip)))
    (.seq (.seq (.ops [⟨some 3, none, .mv (.k (.i .i64 1))⟩])
    (.block 0 (.loop l0_spec_MinCores)))
    (.seq (.ops [⟨some 2, none, .mv (.k (.i .i64 5))⟩])
    (.ret))))
theorem k_spec_MinCores : chkF Try.prog Try.f27 22 c_spec_MinCores [.t 2] = true := by kernel_rfl
theorem call_spec_MinCores {args : List AV} {σ : List AB} {K : AV → List AB → Prop} (hn : args.length ≤ 22) (hw : wpC Try.prog σ.length 22 c_spec_MinCores (retP σ.length [.t 2] K) ⟨initT 0 args, σ⟩) : CallWp Try.prog n_spec_MinCores args σ K := call_fn mixed Try.func27 k_spec_MinCores hn hw

-- loop.example/deadlinescheduler/spec.SetValid
-- l0_spec_SetValid: live at the head: 0 3
def l0_spec_SetValid : LC := .seq (.seq (.ops [⟨some 4, none, .mv (.t 3)⟩,
      ⟨some 5, none, .mv (.t 0)⟩,
      ⟨some 6, none, .len (.t 5)⟩,
      ⟨some 7, none, .bin .lss (.t 4) (.t 6)⟩])
    (.cond (.t 7) (.skip)
    (.exit 0)))
    (.seq (.block 1 (.seq (.ops [⟨some 10, none, .mv (.t 0)⟩,
      ⟨some 11, none, .mv (.t 3)⟩,
      ⟨some 12, none, .ia 3 (.t 10) (.t 11)⟩,
      ⟨some 13, none, .ldn 3 (.t 12)⟩,
      ⟨some 14, none, .call (.k (.fn n_spec_TaskValid [] [])) [.t 13]⟩,
      ⟨some 15, none, .not (.t 14)⟩])
    (.cond (.t 15) (.seq (.ops [⟨some 2, none, .mv (.k (.b false))⟩])
    (.ret))
    (.skip))))
    (.ops [⟨some 8, none, .mv (.t 3)⟩,
      ⟨some 9, none, .bin .add (.t 8) (.k (.i .i64 1))⟩,
      ⟨some 3, none, .mv (.t 9)⟩]))
def c_spec_SetValid : LC := .seq (.ops [⟨some 2, none, .mv (.k (.b false))⟩])
    (.seq (.seq (.ops [⟨some 3, none, .mv (.k (.i .i64 0))⟩])
    (.block 0 (.loop l0_spec_SetValid)))
    (.seq (.ops [⟨some 16, none, .mv (.t 0)⟩,
      ⟨some 17, none, .len (.t 16)⟩,
      ⟨some 18, none, .bin .leq (.t 17) (.k (.i .i64 5))⟩,
      ⟨some 2, none, .mv (.t 18)⟩])
    (.ret)))
theorem k_spec_SetValid : chkF Try.prog Try.f28 19 c_spec_SetValid [.t 2] = true := by kernel_rfl
theorem call_spec_SetValid {args : List AV} {σ : List AB} {K : AV → List AB → Prop} (hn : args.length ≤ 19) (hw : wpC Try.prog σ.length 19 c_spec_SetValid (retP σ.length [.t 2] K) ⟨initT 0 args, σ⟩) : CallWp Try.prog n_spec_SetValid args σ K := call_fn mixed Try.func28 k_spec_SetValid hn hw

-- loop.example/deadlinescheduler/impl.Utilization
def c_impl_Utilization : LC := .seq (.ops [⟨some 2, none, .alloc ty_impl_Fraction [.i .i64 0, .i .i64 0]⟩])
    (.seq (.seq (.ops [⟨some 3, none, .mv (.t 0)⟩,
      ⟨some 4, none, .call (.k (.fn n_impl_SetValid [] [])) [.t 3]⟩,
      ⟨some 5, none, .not (.t 4)⟩])
    (.cond (.t 5) (.seq (.ops [⟨some 6, none, .build [.i .i64 0, .i .i64 0] []⟩,
      ⟨none, none, .st 2 (.t 2) (.t 6)⟩])
    (.ret))
    (.skip)))
    (.seq (.ops [⟨some 7, none, .mv (.t 0)⟩,
      ⟨some 8, none, .call (.k (.fn n_impl_load [] [])) [.t 7]⟩,
      ⟨some 9, none, .mv (.t 0)⟩,
      ⟨some 10, none, .call (.k (.fn n_impl_hyper [] [])) [.t 9]⟩,
      ⟨some 11, none, .call (.k (.fn n_impl_reduced [] [])) [.t 8, .t 10]⟩,
      ⟨none, none, .st 2 (.t 2) (.t 11)⟩])
    (.ret)))
theorem k_impl_Utilization : chkF Try.prog Try.f29 12 c_impl_Utilization [.c 2 (some 2)] = true := by kernel_rfl
theorem call_impl_Utilization {args : List AV} {σ : List AB} {K : AV → List AB → Prop} (hn : args.length ≤ 12) (hw : wpC Try.prog σ.length 12 c_impl_Utilization (retP σ.length [.c 2 (some 2)] K) ⟨initT 0 args, σ⟩) : CallWp Try.prog n_impl_Utilization args σ K := call_fn mixed Try.func29 k_impl_Utilization hn hw

-- loop.example/deadlinescheduler/impl.Partition
def c_impl_Partition : LC := .seq (.ops [⟨some 4, none, .mv (.k (.sn))⟩,
      ⟨some 5, none, .mv (.k (.b false))⟩])
    (.seq (.seq (.ops [⟨some 7, none, .mv (.t 0)⟩,
      ⟨some 8, none, .call (.k (.fn n_impl_SetValid [] [])) [.t 7]⟩,
      ⟨some 9, none, .not (.t 8)⟩,
      ⟨some 10, none, .mv (.t 9)⟩,
      ⟨some 11, (some (10, false)), .mv (.t 1)⟩,
      ⟨some 12, (some (10, false)), .call (.k (.fn n_impl_isCores [] [])) [.t 11]⟩,
      ⟨some 13, (some (10, false)), .not (.t 12)⟩,
      ⟨some 14, none, .pick (.t 10) (.k (.b true)) (.t 13)⟩])
    (.cond (.t 14) (.seq (.ops [⟨some 4, none, .mv (.k (.sn))⟩,
      ⟨some 5, none, .mv (.k (.b false))⟩])
    (.ret))
    (.skip)))
    (.seq (.ops [⟨some 15, none, .mv (.t 0)⟩,
      ⟨some 16, none, .len (.t 15)⟩,
      ⟨some 17, none, .call (.k (.fn n_impl_none [] [])) [.t 16]⟩,
      ⟨some 6, none, .mv (.t 17)⟩])
    (.seq (.seq (.ops [⟨some 18, none, .mv (.t 0)⟩,
      ⟨some 19, none, .mv (.t 1)⟩,
      ⟨some 20, none, .mv (.t 6)⟩,
      ⟨some 21, none, .call (.k (.fn n_impl_search [] [])) [.t 18, .t 19, .t 20, .k (.i .i64 0), .k (.i .i64 0)]⟩,
      ⟨some 22, none, .not (.t 21)⟩])
    (.cond (.t 22) (.seq (.ops [⟨some 4, none, .mv (.k (.sn))⟩,
      ⟨some 5, none, .mv (.k (.b false))⟩])
    (.ret))
    (.skip)))
    (.seq (.ops [⟨some 23, none, .mv (.t 6)⟩,
      ⟨some 4, none, .mv (.t 23)⟩,
      ⟨some 5, none, .mv (.k (.b true))⟩])
    (.ret)))))
theorem k_impl_Partition : chkF Try.prog Try.f30 24 c_impl_Partition [.t 4, .t 5] = true := by kernel_rfl
theorem call_impl_Partition {args : List AV} {σ : List AB} {K : AV → List AB → Prop} (hn : args.length ≤ 24) (hw : wpC Try.prog σ.length 24 c_impl_Partition (retP σ.length [.t 4, .t 5] K) ⟨initT 0 args, σ⟩) : CallWp Try.prog n_impl_Partition args σ K := call_fn mixed Try.func30 k_impl_Partition hn hw

-- loop.example/deadlinescheduler/impl.SetValid
def c_impl_SetValid : LC := .seq (.ops [⟨some 2, none, .mv (.k (.b false))⟩])
    (.seq (.ops [⟨some 3, none, .mv (.t 0)⟩,
      ⟨some 4, none, .len (.t 3)⟩,
      ⟨some 5, none, .bin .leq (.t 4) (.k (.i .i64 5))⟩,
      ⟨some 6, none, .mv (.t 5)⟩,
      ⟨some 7, (some (6, true)), .mv (.t 0)⟩,
      ⟨some 8, (some (6, true)), .call (.k (.fn n_slices_ContainsFunc_impl_Task [] [])) [.t 7, .k (.fn n_impl_SetValid_1 [] [])]⟩,
      ⟨some 9, (some (6, true)), .not (.t 8)⟩,
      ⟨some 10, none, .pick (.t 6) (.t 9) (.k (.b false))⟩,
      ⟨some 2, none, .mv (.t 10)⟩])
    (.ret))
theorem k_impl_SetValid : chkF Try.prog Try.f31 11 c_impl_SetValid [.t 2] = true := by kernel_rfl
theorem call_impl_SetValid {args : List AV} {σ : List AB} {K : AV → List AB → Prop} (hn : args.length ≤ 11) (hw : wpC Try.prog σ.length 11 c_impl_SetValid (retP σ.length [.t 2] K) ⟨initT 0 args, σ⟩) : CallWp Try.prog n_impl_SetValid args σ K := call_fn mixed Try.func31 k_impl_SetValid hn hw

-- loop.example/deadlinescheduler/laws.without
-- region 1: a plan with 1 orders
def c_laws_without : LC := .seq (.ops [⟨some 4, none, .mv (.k (.sn))⟩])
    (.seq (.plan [1, 2, 3, 5, 6, 7, 8] [⟨some 6, none, .mv (.t 0)⟩,
      ⟨some 7, none, .mv (.t 1)⟩,
      ⟨some 8, none, .slc 3 (.t 6) none (some (.t 7)) none⟩,
      ⟨some 10, none, .mv (.t 0)⟩,
      ⟨some 11, none, .mv (.t 1)⟩,
      ⟨some 12, none, .bin .add (.t 11) (.k (.i .i64 1))⟩,
      ⟨some 13, none, .slc 3 (.t 10) (some (.t 12)) none none⟩]
      (.one 0 ⟨some 5, none, .bsl ty_impl_Task [.i .i64 0, .i .i64 0, .i .i64 0] 0 []⟩ [] []
        []
      (.one 4 ⟨some 9, none, .app ty_impl_Task 3 24 (.t 5) (.t 8)⟩ [] []
        []
      (.one 9 ⟨some 14, none, .app ty_impl_Task 3 24 (.t 9) (.t 13)⟩ [] [10]
        [⟨some 4, none, .mv (.t 14)⟩]
      .fin))))
    (.ret))
theorem k_laws_without : chkF Try.prog Try.f32 15 c_laws_without [.t 4] = true := by kernel_rfl
theorem call_laws_without {args : List AV} {σ : List AB} {K : AV → List AB → Prop} (hn : args.length ≤ 15) (hw : wpC Try.prog σ.length 15 c_laws_without (retP σ.length [.t 4] K) ⟨initT 0 args, σ⟩) : CallWp Try.prog n_laws_without args σ K := call_fn mixed Try.func32 k_laws_without hn hw

-- loop.example/deadlinescheduler/spec.DrawPartition
def c_spec_DrawPartition : LC := .seq (.ops [⟨some 2, none, .mv (.k (.sn))⟩,
      ⟨some 3, none, .mv (.k (.i .i64 0))⟩])
    (.seq (.ops [⟨some 4, none, .mv (.t 0)⟩,
      ⟨some 5, none, .call (.k (.fn n_spec_DrawFirstFit [] [])) [.t 4]⟩,
      ⟨some 6, none, .ext 0 (.t 5)⟩,
      ⟨some 7, none, .ext 1 (.t 5)⟩,
      ⟨some 2, none, .mv (.t 6)⟩,
      ⟨some 3, none, .mv (.t 7)⟩])
    (.ret))
theorem k_spec_DrawPartition : chkF Try.prog Try.f33 8 c_spec_DrawPartition [.t 2, .t 3] = true := by kernel_rfl
theorem call_spec_DrawPartition {args : List AV} {σ : List AB} {K : AV → List AB → Prop} (hn : args.length ≤ 8) (hw : wpC Try.prog σ.length 8 c_spec_DrawPartition (retP σ.length [.t 2, .t 3] K) ⟨initT 0 args, σ⟩) : CallWp Try.prog n_spec_DrawPartition args σ K := call_fn mixed Try.func33 k_spec_DrawPartition hn hw

-- loop.example/deadlinescheduler/spec.Partition
def c_spec_Partition : LC := .seq (.ops [⟨some 4, none, .mv (.k (.sn))⟩,
      ⟨some 5, none, .mv (.k (.b false))⟩])
    (.seq (.seq (.ops [⟨some 6, none, .mv (.t 0)⟩,
      ⟨some 7, none, .call (.k (.fn n_spec_SetValid [] [])) [.t 6]⟩,
      ⟨some 8, none, .not (.t 7)⟩,
      ⟨some 9, none, .mv (.t 8)⟩,
      ⟨some 10, (some (9, false)), .mv (.t 1)⟩,
      ⟨some 11, (some (9, false)), .call (.k (.fn n_spec_l1In [] [])) [.t 10, .k (.i .i64 1), .k (.i .i64 5)]⟩,
      ⟨some 12, (some (9, false)), .not (.t 11)⟩,
      ⟨some 13, none, .pick (.t 9) (.k (.b true)) (.t 12)⟩])
    (.cond (.t 13) (.seq (.ops [⟨some 14, none, .bsl ty_int [.i .i64 0] 0 []⟩,
      ⟨some 4, none, .mv (.t 14)⟩,
      ⟨some 5, none, .mv (.k (.b false))⟩])
    (.ret))
    (.skip)))
    (.seq (.ops [⟨some 15, none, .mv (.t 0)⟩,
      ⟨some 16, none, .mv (.t 1)⟩,
      ⟨some 17, none, .bsl ty_int [.i .i64 0] 0 []⟩,
      ⟨some 18, none, .call (.k (.fn n_spec_l7Search [] [])) [.t 15, .t 16, .t 17]⟩,
      ⟨some 19, none, .ext 0 (.t 18)⟩,
      ⟨some 20, none, .ext 1 (.t 18)⟩,
      ⟨some 4, none, .mv (.t 19)⟩,
      ⟨some 5, none, .mv (.t 20)⟩])
    (.ret)))
theorem k_spec_Partition : chkF Try.prog Try.f34 21 c_spec_Partition [.t 4, .t 5] = true := by kernel_rfl
theorem call_spec_Partition {args : List AV} {σ : List AB} {K : AV → List AB → Prop} (hn : args.length ≤ 21) (hw : wpC Try.prog σ.length 21 c_spec_Partition (retP σ.length [.t 4, .t 5] K) ⟨initT 0 args, σ⟩) : CallWp Try.prog n_spec_Partition args σ K := call_fn mixed Try.func34 k_spec_Partition hn hw

-- loop.example/deadlinescheduler/impl.CoreTasks
def c_impl_CoreTasks : LC := .seq (.ops [⟨some 8, none, .mv (.k (.sn))⟩])
    (.seq (.seq (.ops [⟨some 9, none, .mv (.t 0)⟩,
      ⟨some 10, none, .mv (.t 1)⟩,
      ⟨some 11, none, .mv (.t 2)⟩,
      ⟨some 12, none, .call (.k (.fn n_impl_AssignmentValid [] [])) [.t 9, .t 10, .t 11]⟩,
      ⟨some 13, none, .not (.t 12)⟩,
      ⟨some 14, none, .mv (.t 13)⟩,
      ⟨some 15, (some (14, false)), .mv (.t 3)⟩,
      ⟨some 16, (some (14, false)), .mv (.t 1)⟩,
      ⟨some 17, (some (14, false)), .bin .sub (.t 16) (.k (.i .i64 1))⟩,
      ⟨some 18, (some (14, false)), .call (.k (.fn n_impl_in [] [])) [.t 15, .k (.i .i64 0), .t 17]⟩,
      ⟨some 19, (some (14, false)), .not (.t 18)⟩,
      ⟨some 20, none, .pick (.t 14) (.k (.b true)) (.t 19)⟩])
    (.cond (.t 20) (.seq (.ops [⟨some 8, none, .mv (.k (.sn))⟩])
    (.ret))
    (.skip)))
    (.seq (.ops [⟨some 21, none, .mv (.t 0)⟩,
      ⟨some 22, none, .mv (.t 2)⟩,
      ⟨some 23, none, .mv (.t 3)⟩,
      ⟨some 24, none, .call (.k (.fn n_impl_onCore [] [])) [.t 21, .t 22, .t 23]⟩,
      ⟨some 8, none, .mv (.t 24)⟩])
    (.ret)))
theorem k_impl_CoreTasks : chkF Try.prog Try.f35 25 c_impl_CoreTasks [.t 8] = true := by kernel_rfl
theorem call_impl_CoreTasks {args : List AV} {σ : List AB} {K : AV → List AB → Prop} (hn : args.length ≤ 25) (hw : wpC Try.prog σ.length 25 c_impl_CoreTasks (retP σ.length [.t 8] K) ⟨initT 0 args, σ⟩) : CallWp Try.prog n_impl_CoreTasks args σ K := call_fn mixed Try.func35 k_impl_CoreTasks hn hw

-- loop.example/deadlinescheduler/impl.Missed
def c_impl_Missed : LC := .seq (.ops [⟨some 3, none, .box ty_impl_Schedule (.t 1)⟩,
      ⟨some 4, none, .mv (.k (.sn))⟩])
    (.seq (.ops [⟨some 5, none, .mv (.t 0)⟩,
      ⟨some 6, none, .fa 1 (.t 3)⟩,
      ⟨some 7, none, .ld (.t 6)⟩,
      ⟨some 8, none, .call (.k (.fn n_impl_missed [] [])) [.t 5, .t 7]⟩,
      ⟨some 4, none, .mv (.t 8)⟩])
    (.ret))
theorem k_impl_Missed : chkF Try.prog Try.f36 9 c_impl_Missed [.t 4] = true := by kernel_rfl
theorem call_impl_Missed {args : List AV} {σ : List AB} {K : AV → List AB → Prop} (hn : args.length ≤ 9) (hw : wpC Try.prog σ.length 9 c_impl_Missed (retP σ.length [.t 4] K) ⟨initT 0 args, σ⟩) : CallWp Try.prog n_impl_Missed args σ K := call_fn mixed Try.func36 k_impl_Missed hn hw
theorem callC_impl_Missed {args : List AV} {σ : List AB} {K : AV → List AB → Prop} (hn : args.length ≤ 9) (hw : Closed σ → args.all (below1 σ.length) = true → wpC Try.prog σ.length 9 c_impl_Missed (retP σ.length [.t 4] K) ⟨initT 0 args, σ⟩) : CallWp Try.prog n_impl_Missed args σ K := call_fnC mixed Try.func36 k_impl_Missed hn hw

-- loop.example/deadlinescheduler/spec.DrawWorstChoices
def c_spec_DrawWorstChoices : LC := .seq (.ops [⟨some 2, none, .mv (.k (.sn))⟩])
    (.seq (.ops [⟨some 3, none, .mv (.t 0)⟩,
      ⟨some 4, none, .call (.k (.fn n_spec_l20Open [] [])) [.t 3]⟩,
      ⟨some 5, none, .call (.k (.fn n_spec_l20Prog [] [])) [.t 4, .k (.i .i64 9)]⟩,
      ⟨some 2, none, .mv (.t 5)⟩])
    (.ret))
theorem k_spec_DrawWorstChoices : chkF Try.prog Try.f37 6 c_spec_DrawWorstChoices [.t 2] = true := by kernel_rfl
theorem call_spec_DrawWorstChoices {args : List AV} {σ : List AB} {K : AV → List AB → Prop} (hn : args.length ≤ 6) (hw : wpC Try.prog σ.length 6 c_spec_DrawWorstChoices (retP σ.length [.t 2] K) ⟨initT 0 args, σ⟩) : CallWp Try.prog n_spec_DrawWorstChoices args σ K := call_fn mixed Try.func37 k_spec_DrawWorstChoices hn hw

-- loop.example/deadlinescheduler/impl.WorstChoices
def c_impl_WorstChoices : LC := .seq (.ops [⟨some 1, none, .box ty_sl_impl_Node (.t 0)⟩,
      ⟨some 2, none, .mv (.k (.sn))⟩])
    (.seq (.seq (.ops [⟨some 5, none, .ld (.t 1)⟩,
      ⟨some 6, none, .call (.k (.fn n_impl_ProgramValid [] [])) [.t 5]⟩,
      ⟨some 7, none, .not (.t 6)⟩])
    (.cond (.t 7) (.seq (.ops [⟨some 2, none, .mv (.k (.sn))⟩])
    (.ret))
    (.skip)))
    (.seq (.ops [⟨some 8, none, .ld (.t 1)⟩,
      ⟨some 9, none, .call (.k (.fn n_impl_worst [] [])) [.t 8]⟩,
      ⟨some 3, none, .alloc ty_sl_int [.sn]⟩,
      ⟨none, none, .st 1 (.t 3) (.t 9)⟩])
    (.seq (.ops [⟨some 4, none, .alloc ty_sl_int [.sn]⟩])
    (.seq (.ops [⟨some 10, none, .ld (.t 1)⟩,
      ⟨some 11, none, .ld (.t 1)⟩,
      ⟨some 12, none, .len (.t 11)⟩,
      ⟨some 13, none, .bin .sub (.t 12) (.k (.i .i64 1))⟩,
      ⟨some 14, none, .mkf n_impl_WorstChoices_1 [] [.t 1, .t 3, .t 4]⟩,
      ⟨some 15, none, .call (.k (.fn n_impl_execute [] [])) [.t 10, .t 13, .t 14]⟩])
    (.seq (.ops [⟨some 16, none, .ld (.t 4)⟩,
      ⟨some 17, none, .call (.k (.fn n_impl_clone_int [] [])) [.t 16]⟩,
      ⟨some 2, none, .mv (.t 17)⟩])
    (.ret))))))
theorem k_impl_WorstChoices : chkF Try.prog Try.f38 18 c_impl_WorstChoices [.t 2] = true := by kernel_rfl
theorem call_impl_WorstChoices {args : List AV} {σ : List AB} {K : AV → List AB → Prop} (hn : args.length ≤ 18) (hw : wpC Try.prog σ.length 18 c_impl_WorstChoices (retP σ.length [.t 2] K) ⟨initT 0 args, σ⟩) : CallWp Try.prog n_impl_WorstChoices args σ K := call_fn mixed Try.func38 k_impl_WorstChoices hn hw

-- loop.example/deadlinescheduler/spec.WorstChoices
def c_spec_WorstChoices : LC := .seq (.ops [⟨some 2, none, .mv (.k (.sn))⟩])
    (.seq (.seq (.ops [⟨some 3, none, .mv (.t 0)⟩,
      ⟨some 4, none, .call (.k (.fn n_spec_ProgramValid [] [])) [.t 3]⟩,
      ⟨some 5, none, .not (.t 4)⟩])
    (.cond (.t 5) (.seq (.ops [⟨some 6, none, .bsl ty_int [.i .i64 0] 0 []⟩,
      ⟨some 2, none, .mv (.t 6)⟩])
    (.ret))
    (.skip)))
    (.seq (.ops [⟨some 7, none, .mv (.t 0)⟩,
      ⟨some 8, none, .mv (.t 0)⟩,
      ⟨some 9, none, .call (.k (.fn n_spec_l8Costs [] [])) [.t 8, .k (.b true)]⟩,
      ⟨some 10, none, .mv (.t 0)⟩,
      ⟨some 11, none, .len (.t 10)⟩,
      ⟨some 12, none, .bin .sub (.t 11) (.k (.i .i64 1))⟩,
      ⟨some 13, none, .call (.k (.fn n_spec_l8Worst [] [])) [.t 7, .t 9, .t 12]⟩,
      ⟨some 2, none, .mv (.t 13)⟩])
    (.ret)))
theorem k_spec_WorstChoices : chkF Try.prog Try.f39 14 c_spec_WorstChoices [.t 2] = true := by kernel_rfl
theorem call_spec_WorstChoices {args : List AV} {σ : List AB} {K : AV → List AB → Prop} (hn : args.length ≤ 14) (hw : wpC Try.prog σ.length 14 c_spec_WorstChoices (retP σ.length [.t 2] K) ⟨initT 0 args, σ⟩) : CallWp Try.prog n_spec_WorstChoices args σ K := call_fn mixed Try.func39 k_spec_WorstChoices hn hw

-- loop.example/deadlinescheduler/spec.ProgramValid
-- l0_spec_ProgramValid: live at the head: 0 3
def l0_spec_ProgramValid : LC := .seq (.seq (.ops [⟨some 8, none, .mv (.t 3)⟩,
      ⟨some 9, none, .mv (.t 0)⟩,
      ⟨some 10, none, .len (.t 9)⟩,
      ⟨some 11, none, .bin .lss (.t 8) (.t 10)⟩])
    (.cond (.t 11) (.skip)
    (.exit 0)))
    (.seq (.block 1 (.seq (.ops [⟨some 14, none, .mv (.t 0)⟩,
      ⟨some 15, none, .mv (.t 3)⟩,
      ⟨some 16, none, .ia 5 (.t 14) (.t 15)⟩,
      ⟨some 17, none, .ldn 5 (.t 16)⟩,
      ⟨some 18, none, .mv (.t 3)⟩,
      ⟨some 19, none, .call (.k (.fn n_spec_l8Node [] [])) [.t 17, .t 18]⟩,
      ⟨some 20, none, .not (.t 19)⟩])
    (.cond (.t 20) (.seq (.ops [⟨some 2, none, .mv (.k (.b false))⟩])
    (.ret))
    (.skip))))
    (.ops [⟨some 12, none, .mv (.t 3)⟩,
      ⟨some 13, none, .bin .add (.t 12) (.k (.i .i64 1))⟩,
      ⟨some 3, none, .mv (.t 13)⟩]))
def c_spec_ProgramValid : LC := .seq (.ops [⟨some 2, none, .mv (.k (.b false))⟩])
    (.seq (.seq (.ops [⟨some 4, none, .mv (.t 0)⟩,
      ⟨some 5, none, .len (.t 4)⟩,
      ⟨some 6, none, .call (.k (.fn n_spec_l1In [] [])) [.t 5, .k (.i .i64 1), .k (.i .i64 12)]⟩,
      ⟨some 7, none, .not (.t 6)⟩])
    (.cond (.t 7) (.seq (.ops [⟨some 2, none, .mv (.k (.b false))⟩])
    (.ret))
    (.skip)))
    (.seq (.seq (.ops [⟨some 3, none, .mv (.k (.i .i64 0))⟩])
    (.block 0 (.loop l0_spec_ProgramValid)))
    (.seq (.ops [⟨some 21, none, .mv (.t 0)⟩,
      ⟨some 22, none, .call (.k (.fn n_spec_l8Costs [] [])) [.t 21, .k (.b true)]⟩,
      ⟨some 23, none, .mv (.t 0)⟩,
      ⟨some 24, none, .len (.t 23)⟩,
      ⟨some 25, none, .bin .sub (.t 24) (.k (.i .i64 1))⟩,
      ⟨some 26, none, .ia 1 (.t 22) (.t 25)⟩,
      ⟨some 27, none, .ld (.t 26)⟩,
      ⟨some 28, none, .bin .leq (.t 27) (.k (.i .i64 600))⟩,
      ⟨some 2, none, .mv (.t 28)⟩])
    (.ret))))
theorem k_spec_ProgramValid : chkF Try.prog Try.f40 29 c_spec_ProgramValid [.t 2] = true := by kernel_rfl
theorem call_spec_ProgramValid {args : List AV} {σ : List AB} {K : AV → List AB → Prop} (hn : args.length ≤ 29) (hw : wpC Try.prog σ.length 29 c_spec_ProgramValid (retP σ.length [.t 2] K) ⟨initT 0 args, σ⟩) : CallWp Try.prog n_spec_ProgramValid args σ K := call_fn mixed Try.func40 k_spec_ProgramValid hn hw

-- loop.example/deadlinescheduler/impl.RunProgram
def c_impl_RunProgram : LC := .seq (.ops [⟨some 3, none, .box ty_sl_int (.t 1)⟩,
      ⟨some 4, none, .mv (.k (.i .i64 0))⟩])
    (.seq (.seq (.ops [⟨some 5, none, .mv (.t 0)⟩,
      ⟨some 6, none, .call (.k (.fn n_impl_ProgramValid [] [])) [.t 5]⟩,
      ⟨some 7, none, .not (.t 6)⟩])
    (.cond (.t 7) (.seq (.ops [⟨some 4, none, .mv (.k (.i .i64 (-1)))⟩])
    (.ret))
    (.skip)))
    (.seq (.ops [⟨some 8, none, .mv (.t 0)⟩,
      ⟨some 9, none, .mv (.t 0)⟩,
      ⟨some 10, none, .len (.t 9)⟩,
      ⟨some 11, none, .bin .sub (.t 10) (.k (.i .i64 1))⟩,
      ⟨some 12, none, .mkf n_impl_RunProgram_1 [] [.t 3]⟩,
      ⟨some 13, none, .call (.k (.fn n_impl_execute [] [])) [.t 8, .t 11, .t 12]⟩,
      ⟨some 4, none, .mv (.t 13)⟩])
    (.ret)))
theorem k_impl_RunProgram : chkF Try.prog Try.f41 14 c_impl_RunProgram [.t 4] = true := by kernel_rfl
theorem call_impl_RunProgram {args : List AV} {σ : List AB} {K : AV → List AB → Prop} (hn : args.length ≤ 14) (hw : wpC Try.prog σ.length 14 c_impl_RunProgram (retP σ.length [.t 4] K) ⟨initT 0 args, σ⟩) : CallWp Try.prog n_impl_RunProgram args σ K := call_fn mixed Try.func41 k_impl_RunProgram hn hw

-- loop.example/deadlinescheduler/impl.Wcet
def c_impl_Wcet : LC := .seq (.ops [⟨some 2, none, .mv (.k (.i .i64 0))⟩])
    (.seq (.seq (.ops [⟨some 3, none, .mv (.t 0)⟩,
      ⟨some 4, none, .call (.k (.fn n_impl_ProgramValid [] [])) [.t 3]⟩,
      ⟨some 5, none, .not (.t 4)⟩])
    (.cond (.t 5) (.seq (.ops [⟨some 2, none, .mv (.k (.i .i64 (-1)))⟩])
    (.ret))
    (.skip)))
    (.seq (.ops [⟨some 6, none, .mv (.t 0)⟩,
      ⟨some 7, none, .call (.k (.fn n_impl_worst [] [])) [.t 6]⟩,
      ⟨some 8, none, .mv (.t 0)⟩,
      ⟨some 9, none, .len (.t 8)⟩,
      ⟨some 10, none, .bin .sub (.t 9) (.k (.i .i64 1))⟩,
      ⟨some 11, none, .ia 1 (.t 7) (.t 10)⟩,
      ⟨some 12, none, .ld (.t 11)⟩,
      ⟨some 2, none, .mv (.t 12)⟩])
    (.ret)))
theorem k_impl_Wcet : chkF Try.prog Try.f42 13 c_impl_Wcet [.t 2] = true := by kernel_rfl
theorem call_impl_Wcet {args : List AV} {σ : List AB} {K : AV → List AB → Prop} (hn : args.length ≤ 13) (hw : wpC Try.prog σ.length 13 c_impl_Wcet (retP σ.length [.t 2] K) ⟨initT 0 args, σ⟩) : CallWp Try.prog n_impl_Wcet args σ K := call_fn mixed Try.func42 k_impl_Wcet hn hw

-- loop.example/deadlinescheduler/spec.Wcet
def c_spec_Wcet : LC := .seq (.ops [⟨some 2, none, .mv (.k (.i .i64 0))⟩])
    (.seq (.seq (.ops [⟨some 3, none, .mv (.t 0)⟩,
      ⟨some 4, none, .call (.k (.fn n_spec_ProgramValid [] [])) [.t 3]⟩,
      ⟨some 5, none, .not (.t 4)⟩])
    (.cond (.t 5) (.seq (.ops [⟨some 2, none, .mv (.k (.i .i64 (-1)))⟩])
    (.ret))
    (.skip)))
    (.seq (.ops [⟨some 6, none, .mv (.t 0)⟩,
      ⟨some 7, none, .call (.k (.fn n_spec_l8Costs [] [])) [.t 6, .k (.b true)]⟩,
      ⟨some 8, none, .mv (.t 0)⟩,
      ⟨some 9, none, .len (.t 8)⟩,
      ⟨some 10, none, .bin .sub (.t 9) (.k (.i .i64 1))⟩,
      ⟨some 11, none, .ia 1 (.t 7) (.t 10)⟩,
      ⟨some 12, none, .ld (.t 11)⟩,
      ⟨some 2, none, .mv (.t 12)⟩])
    (.ret)))
theorem k_spec_Wcet : chkF Try.prog Try.f43 13 c_spec_Wcet [.t 2] = true := by kernel_rfl
theorem call_spec_Wcet {args : List AV} {σ : List AB} {K : AV → List AB → Prop} (hn : args.length ≤ 13) (hw : wpC Try.prog σ.length 13 c_spec_Wcet (retP σ.length [.t 2] K) ⟨initT 0 args, σ⟩) : CallWp Try.prog n_spec_Wcet args σ K := call_fn mixed Try.func43 k_spec_Wcet hn hw

-- loop.example/deadlinescheduler/impl.Bcet
-- region 12 draws, 13 of 15 first
-- region 14 draws, 16 of 18 first
-- a cut
-- l0_impl_Bcet: live at the head: 0 3 12 13 14
def l0_impl_Bcet : LC := .seq (.ops [⟨some 15, none, .bin .lss (.t 14) (.t 13)⟩])
    (.seq (.cond (.t 15) (.skip)
    (.exit 0))
    (.seq (.block 1 (.seq (.ops [⟨some 16, none, .mv (.t 14)⟩,
      ⟨some 17, none, .ia 5 (.t 12) (.t 14)⟩,
      ⟨some 18, none, .ldn 5 (.t 17)⟩,
      ⟨some 5, none, .alloc ty_impl_Node [.i .i64 0, .i .i64 0, .i .i64 0, .i .i64 0, .i .i64 0]⟩,
      ⟨some 4, none, .mv (.t 16)⟩,
      ⟨none, none, .st 5 (.t 5) (.t 18)⟩])
    (.seq (.ops [⟨some 19, none, .fa 0 (.t 5)⟩,
      ⟨some 20, none, .ld (.t 19)⟩])
    (.block 2 (.join (.seq (.ops [⟨some 22, none, .bin .eql (.t 20) (.k (.i .i64 1))⟩,
      ⟨some 21, none, .mv (.t 22)⟩])
    (.cond (.t 21) (.skip)
    (.ops [⟨some 23, none, .bin .eql (.t 20) (.k (.i .i64 4))⟩,
      ⟨some 21, none, .mv (.t 23)⟩])))
    (.cond (.t 21) (.ops [⟨some 24, none, .mv (.t 3)⟩,
      ⟨some 25, none, .mv (.t 4)⟩,
      ⟨some 26, none, .fa 1 (.t 5)⟩,
      ⟨some 27, none, .ld (.t 26)⟩,
      ⟨some 28, none, .ia 1 (.t 24) (.t 25)⟩,
      ⟨none, none, .st 1 (.t 28) (.t 27)⟩])
    (.seq (.ops [⟨some 30, none, .bin .eql (.t 20) (.k (.i .i64 2))⟩,
      ⟨some 29, none, .mv (.t 30)⟩])
    (.cond (.t 29) (.draw 13 [⟨some 31, none, .mv (.t 3)⟩,
      ⟨some 32, none, .mv (.t 4)⟩,
      ⟨some 33, none, .mv (.t 3)⟩,
      ⟨some 34, none, .fa 2 (.t 5)⟩,
      ⟨some 35, none, .ld (.t 34)⟩,
      ⟨some 36, none, .ia 1 (.t 33) (.t 35)⟩,
      ⟨some 37, none, .ld (.t 36)⟩,
      ⟨some 38, none, .mv (.t 3)⟩,
      ⟨some 39, none, .fa 3 (.t 5)⟩,
      ⟨some 40, none, .ld (.t 39)⟩,
      ⟨some 41, none, .ia 1 (.t 38) (.t 40)⟩,
      ⟨some 42, none, .ld (.t 41)⟩,
      ⟨some 43, none, .bin .add (.t 37) (.t 42)⟩,
      ⟨some 44, none, .ia 1 (.t 31) (.t 32)⟩,
      ⟨none, none, .st 1 (.t 44) (.t 43)⟩])
    (.seq (.ops [⟨some 46, none, .bin .eql (.t 20) (.k (.i .i64 3))⟩,
      ⟨some 45, none, .mv (.t 46)⟩])
    (.cond (.t 45) (.draw 16 [⟨some 47, none, .mv (.t 3)⟩,
      ⟨some 48, none, .mv (.t 4)⟩,
      ⟨some 49, none, .fa 1 (.t 5)⟩,
      ⟨some 50, none, .ld (.t 49)⟩,
      ⟨some 51, none, .mv (.t 3)⟩,
      ⟨some 52, none, .fa 2 (.t 5)⟩,
      ⟨some 53, none, .ld (.t 52)⟩,
      ⟨some 54, none, .ia 1 (.t 51) (.t 53)⟩,
      ⟨some 55, none, .ld (.t 54)⟩,
      ⟨some 56, none, .mv (.t 3)⟩,
      ⟨some 57, none, .fa 3 (.t 5)⟩,
      ⟨some 58, none, .ld (.t 57)⟩,
      ⟨some 59, none, .ia 1 (.t 56) (.t 58)⟩,
      ⟨some 60, none, .ld (.t 59)⟩,
      ⟨some 61, none, .mn (.t 55) (.t 60)⟩,
      ⟨some 62, none, .bin .add (.t 50) (.t 61)⟩,
      ⟨some 63, none, .ia 1 (.t 47) (.t 48)⟩,
      ⟨none, none, .st 1 (.t 63) (.t 62)⟩])
    (.skip)))))))))))
    (.ops [⟨some 64, none, .bin .add (.t 14) (.k (.i .i64 1))⟩,
      ⟨some 14, none, .mv (.t 64)⟩])))
def c_impl_Bcet : LC := .seq (.ops [⟨some 2, none, .mv (.k (.i .i64 0))⟩])
    (.seq (.seq (.ops [⟨some 6, none, .mv (.t 0)⟩,
      ⟨some 7, none, .call (.k (.fn n_impl_ProgramValid [] [])) [.t 6]⟩,
      ⟨some 8, none, .not (.t 7)⟩])
    (.cond (.t 8) (.seq (.ops [⟨some 2, none, .mv (.k (.i .i64 (-1)))⟩])
    (.ret))
    (.skip)))
    (.seq (.ops [⟨some 9, none, .mv (.t 0)⟩,
      ⟨some 10, none, .len (.t 9)⟩,
      ⟨some 11, none, .msl ty_int 8 [.i .i64 0] (.t 10)⟩,
      ⟨some 3, none, .mv (.t 11)⟩])
    (.seq (.seq (.ops [⟨some 12, none, .mv (.t 0)⟩,
      ⟨some 13, none, .len (.t 12)⟩,
      ⟨some 14, none, .mv (.k (.i .i64 0))⟩])
    (.block 0 (.loop l0_impl_Bcet)))
    (.seq (.ops [⟨some 65, none, .mv (.t 3)⟩,
      ⟨some 66, none, .mv (.t 0)⟩,
      ⟨some 67, none, .len (.t 66)⟩,
      ⟨some 68, none, .bin .sub (.t 67) (.k (.i .i64 1))⟩,
      ⟨some 69, none, .ia 1 (.t 65) (.t 68)⟩,
      ⟨some 70, none, .ld (.t 69)⟩,
      ⟨some 2, none, .mv (.t 70)⟩])
    (.ret)))))
theorem k_impl_Bcet : chkF Try.prog Try.f44 71 c_impl_Bcet [.t 2] = true := by kernel_rfl
theorem call_impl_Bcet {args : List AV} {σ : List AB} {K : AV → List AB → Prop} (hn : args.length ≤ 71) (hw : wpC Try.prog σ.length 71 c_impl_Bcet (retP σ.length [.t 2] K) ⟨initT 0 args, σ⟩) : CallWp Try.prog n_impl_Bcet args σ K := call_fn mixed Try.func44 k_impl_Bcet hn hw

-- loop.example/deadlinescheduler/spec.Bcet
def c_spec_Bcet : LC := .seq (.ops [⟨some 2, none, .mv (.k (.i .i64 0))⟩])
    (.seq (.seq (.ops [⟨some 3, none, .mv (.t 0)⟩,
      ⟨some 4, none, .call (.k (.fn n_spec_ProgramValid [] [])) [.t 3]⟩,
      ⟨some 5, none, .not (.t 4)⟩])
    (.cond (.t 5) (.seq (.ops [⟨some 2, none, .mv (.k (.i .i64 (-1)))⟩])
    (.ret))
    (.skip)))
    (.seq (.ops [⟨some 6, none, .mv (.t 0)⟩,
      ⟨some 7, none, .call (.k (.fn n_spec_l8Costs [] [])) [.t 6, .k (.b false)]⟩,
      ⟨some 8, none, .mv (.t 0)⟩,
      ⟨some 9, none, .len (.t 8)⟩,
      ⟨some 10, none, .bin .sub (.t 9) (.k (.i .i64 1))⟩,
      ⟨some 11, none, .ia 1 (.t 7) (.t 10)⟩,
      ⟨some 12, none, .ld (.t 11)⟩,
      ⟨some 2, none, .mv (.t 12)⟩])
    (.ret)))
theorem k_spec_Bcet : chkF Try.prog Try.f45 13 c_spec_Bcet [.t 2] = true := by kernel_rfl
theorem call_spec_Bcet {args : List AV} {σ : List AB} {K : AV → List AB → Prop} (hn : args.length ≤ 13) (hw : wpC Try.prog σ.length 13 c_spec_Bcet (retP σ.length [.t 2] K) ⟨initT 0 args, σ⟩) : CallWp Try.prog n_spec_Bcet args σ K := call_fn mixed Try.func45 k_spec_Bcet hn hw

-- loop.example/deadlinescheduler/spec.l20Set
-- a cut
-- l1_spec_l20Set: live at the head: 0 1 5 6
-- l0_spec_l20Set: live at the head: 0 5
def l0_spec_l20Set : LC := .seq (.seq (.ops [⟨some 25, none, .mv (.t 5)⟩,
      ⟨some 26, none, .len (.t 25)⟩,
      ⟨some 27, none, .bin .leq (.t 26) (.k (.i .i64 5))⟩])
    (.cond (.t 27) (.skip)
    (.exit 2)))
    (.block 3 (.ops [⟨some 28, none, .mv (.t 5)⟩,
      ⟨some 29, none, .mv (.t 0)⟩,
      ⟨some 30, none, .call (.k (.fn n_spec_l20Task [] [])) [.t 29, .k (.i .i64 0)]⟩,
      ⟨some 31, none, .bsl ty_impl_Task [.i .i64 0, .i .i64 0, .i .i64 0] 1 [(0, 3, .t 30)]⟩,
      ⟨some 32, none, .app ty_impl_Task 3 24 (.t 28) (.t 31)⟩,
      ⟨some 5, none, .mv (.t 32)⟩]))
def l1_spec_l20Set : LC := .seq (.seq (.ops [⟨some 10, none, .mv (.t 6)⟩,
      ⟨some 11, none, .bin .gtr (.t 10) (.k (.i .i64 0))⟩])
    (.cond (.t 11) (.skip)
    (.exit 0)))
    (.seq (.block 1 (.ops [⟨some 14, none, .mv (.t 5)⟩,
      ⟨some 15, none, .mv (.t 0)⟩,
      ⟨some 16, none, .call (.k (.fn n_spec_l20Task [] [])) [.t 15, .k (.i .i64 0)]⟩,
      ⟨some 17, none, .bsl ty_impl_Task [.i .i64 0, .i .i64 0, .i .i64 0] 1 [(0, 3, .t 16)]⟩,
      ⟨some 18, none, .app ty_impl_Task 3 24 (.t 14) (.t 17)⟩,
      ⟨some 5, none, .mv (.t 18)⟩]))
    (.ops [⟨some 12, none, .mv (.t 6)⟩,
      ⟨some 13, none, .bin .sub (.t 12) (.k (.i .i64 1))⟩,
      ⟨some 6, none, .mv (.t 13)⟩]))
def c_spec_l20Set : LC := .seq (.ops [⟨some 4, none, .mv (.k (.sn))⟩])
    (.seq (.ops [⟨some 7, none, .bsl ty_impl_Task [.i .i64 0, .i .i64 0, .i .i64 0] 0 []⟩,
      ⟨some 5, none, .mv (.t 7)⟩])
    (.seq (.seq (.ops [⟨some 8, none, .mv (.t 0)⟩,
      ⟨some 9, none, .call (.k (.fn n_spec_l20Rd_pick [] [])) [.t 8, .k (.i .i64 6)]⟩,
      ⟨some 6, none, .mv (.t 9)⟩])
    (.block 0 (.loop l1_spec_l20Set)))
    (.join (.seq (.ops [⟨some 19, none, .mv (.t 0)⟩,
      ⟨some 20, none, .mv (.t 1)⟩,
      ⟨some 21, none, .call (.k (.fn n_spec_l20Rd_odd [] [])) [.t 19, .t 20]⟩])
    (.cond (.t 21) (.seq (.seq (.ops [⟨some 22, none, .mv (.t 0)⟩,
      ⟨some 23, none, .call (.k (.fn n_spec_l20Rd_pick [] [])) [.t 22, .k (.i .i64 3)]⟩,
      ⟨some 24, none, .bin .eql (.t 23) (.k (.i .i64 0))⟩])
    (.cond (.t 24) (.block 2 (.loop l0_spec_l20Set))
    (.skip)))
    (.ops [⟨some 33, none, .mv (.t 5)⟩,
      ⟨some 34, none, .mv (.t 0)⟩,
      ⟨some 35, none, .call (.k (.fn n_spec_l20Task [] [])) [.t 34, .k (.i .i64 2)]⟩,
      ⟨some 36, none, .bsl ty_impl_Task [.i .i64 0, .i .i64 0, .i .i64 0] 1 [(0, 3, .t 35)]⟩,
      ⟨some 37, none, .app ty_impl_Task 3 24 (.t 33) (.t 36)⟩,
      ⟨some 5, none, .mv (.t 37)⟩]))
    (.skip)))
    (.seq (.ops [⟨some 38, none, .mv (.t 5)⟩,
      ⟨some 4, none, .mv (.t 38)⟩])
    (.ret)))))
theorem k_spec_l20Set : chkF Try.prog Try.f46 39 c_spec_l20Set [.t 4] = true := by kernel_rfl
theorem call_spec_l20Set {args : List AV} {σ : List AB} {K : AV → List AB → Prop} (hn : args.length ≤ 39) (hw : wpC Try.prog σ.length 39 c_spec_l20Set (retP σ.length [.t 4] K) ⟨initT 0 args, σ⟩) : CallWp Try.prog n_spec_l20Set args σ K := call_fn mixed Try.func46 k_spec_l20Set hn hw

-- loop.example/deadlinescheduler/spec.l20Open
-- a cut
def c_spec_l20Open : LC := .seq (.ops [⟨some 2, none, .mv (.k (.pn))⟩])
    (.join (.seq (.ops [⟨some 3, none, .mv (.t 0)⟩,
      ⟨some 4, none, .len (.t 3)⟩,
      ⟨some 5, none, .bin .gtr (.t 4) (.k (.i .i64 2000))⟩])
    (.cond (.t 5) (.ops [⟨some 6, none, .mv (.t 0)⟩,
      ⟨some 7, none, .slc 1 (.t 6) none (some (.k (.i .i64 2000))) none⟩,
      ⟨some 0, none, .mv (.t 7)⟩])
    (.skip)))
    (.seq (.ops [⟨some 8, none, .mv (.t 0)⟩,
      ⟨some 9, none, .build [.sn, .i .i64 0] [(0, 1, .t 8)]⟩,
      ⟨some 10, none, .box ty_spec_l20Rd (.t 9)⟩,
      ⟨some 2, none, .mv (.t 10)⟩])
    (.ret)))
theorem k_spec_l20Open : chkF Try.prog Try.f47 11 c_spec_l20Open [.t 2] = true := by kernel_rfl
theorem call_spec_l20Open {args : List AV} {σ : List AB} {K : AV → List AB → Prop} (hn : args.length ≤ 11) (hw : wpC Try.prog σ.length 11 c_spec_l20Open (retP σ.length [.t 2] K) ⟨initT 0 args, σ⟩) : CallWp Try.prog n_spec_l20Open args σ K := call_fn mixed Try.func47 k_spec_l20Open hn hw

-- loop.example/deadlinescheduler/impl.feasible
def c_impl_feasible : LC := .seq (.ops [⟨some 2, none, .mv (.k (.b false))⟩])
    (.seq (.ops [⟨some 3, none, .mv (.t 0)⟩,
      ⟨some 4, none, .call (.k (.fn n_impl_FirstOverload [] [])) [.t 3]⟩,
      ⟨some 5, none, .bin .lss (.t 4) (.k (.i .i64 0))⟩,
      ⟨some 2, none, .mv (.t 5)⟩])
    (.ret))
theorem k_impl_feasible : chkF Try.prog Try.f48 6 c_impl_feasible [.t 2] = true := by kernel_rfl
theorem call_impl_feasible {args : List AV} {σ : List AB} {K : AV → List AB → Prop} (hn : args.length ≤ 6) (hw : wpC Try.prog σ.length 6 c_impl_feasible (retP σ.length [.t 2] K) ⟨initT 0 args, σ⟩) : CallWp Try.prog n_impl_feasible args σ K := call_fn mixed Try.func48 k_impl_feasible hn hw

-- loop.example/deadlinescheduler/impl.hyper
-- l0_impl_hyper: live at the head: 3 6 7 8
def l0_impl_hyper : LC := .seq (.ops [⟨some 9, none, .bin .lss (.t 8) (.t 7)⟩])
    (.seq (.cond (.t 9) (.skip)
    (.exit 0))
    (.seq (.block 1 (.seq (.ops [⟨some 10, none, .ia 3 (.t 6) (.t 8)⟩,
      ⟨some 11, none, .ldn 3 (.t 10)⟩,
      ⟨some 5, none, .alloc ty_impl_Task [.i .i64 0, .i .i64 0, .i .i64 0]⟩,
      ⟨none, none, .st 3 (.t 5) (.t 11)⟩])
    (.ops [⟨some 12, none, .mv (.t 3)⟩,
      ⟨some 13, none, .fa 2 (.t 5)⟩,
      ⟨some 14, none, .ld (.t 13)⟩,
      ⟨some 15, none, .call (.k (.fn n_impl_lcm [] [])) [.t 12, .t 14]⟩,
      ⟨some 3, none, .mv (.t 15)⟩])))
    (.ops [⟨some 16, none, .bin .add (.t 8) (.k (.i .i64 1))⟩,
      ⟨some 8, none, .mv (.t 16)⟩])))
def c_impl_hyper : LC := .seq (.ops [⟨some 2, none, .mv (.k (.i .i64 0))⟩])
    (.seq (.ops [⟨some 3, none, .mv (.k (.i .i64 1))⟩])
    (.seq (.seq (.ops [⟨some 6, none, .mv (.t 0)⟩,
      ⟨some 7, none, .len (.t 6)⟩,
      ⟨some 8, none, .mv (.k (.i .i64 0))⟩])
    (.block 0 (.loop l0_impl_hyper)))
    (.seq (.ops [⟨some 17, none, .mv (.t 3)⟩,
      ⟨some 2, none, .mv (.t 17)⟩])
    (.ret))))
theorem k_impl_hyper : chkF Try.prog Try.f49 18 c_impl_hyper [.t 2] = true := by kernel_rfl
theorem call_impl_hyper {args : List AV} {σ : List AB} {K : AV → List AB → Prop} (hn : args.length ≤ 18) (hw : wpC Try.prog σ.length 18 c_impl_hyper (retP σ.length [.t 2] K) ⟨initT 0 args, σ⟩) : CallWp Try.prog n_impl_hyper args σ K := call_fn mixed Try.func49 k_impl_hyper hn hw

-- loop.example/deadlinescheduler/impl.none
def c_impl_none : LC := .seq (.ops [⟨some 2, none, .mv (.k (.sn))⟩])
    (.seq (.ops [⟨some 3, none, .bsl ty_int [.i .i64 0] 1 [(0, 1, .k (.i .i64 (-1)))]⟩,
      ⟨some 4, none, .mv (.t 0)⟩,
      ⟨some 5, none, .call (.k (.fn n_slices_Repeat_int [] [])) [.t 3, .t 4]⟩,
      ⟨some 2, none, .mv (.t 5)⟩])
    (.ret))
theorem k_impl_none : chkF Try.prog Try.f50 6 c_impl_none [.t 2] = true := by kernel_rfl
theorem call_impl_none {args : List AV} {σ : List AB} {K : AV → List AB → Prop} (hn : args.length ≤ 6) (hw : wpC Try.prog σ.length 6 c_impl_none (retP σ.length [.t 2] K) ⟨initT 0 args, σ⟩) : CallWp Try.prog n_impl_none args σ K := call_fn mixed Try.func50 k_impl_none hn hw

-- loop.example/deadlinescheduler/spec.l1Hyper
-- region 5 draws, 15 of 16 first
-- l0_spec_l1Hyper: live at the head: 0 3 4
def l0_spec_l1Hyper : LC := .seq (.seq (.ops [⟨some 5, none, .mv (.t 4)⟩,
      ⟨some 6, none, .mv (.t 0)⟩,
      ⟨some 7, none, .len (.t 6)⟩,
      ⟨some 8, none, .bin .lss (.t 5) (.t 7)⟩])
    (.cond (.t 8) (.skip)
    (.exit 0)))
    (.seq (.block 1 (.draw 15 [⟨some 11, none, .mv (.t 3)⟩,
      ⟨some 12, none, .mv (.t 3)⟩,
      ⟨some 13, none, .mv (.t 0)⟩,
      ⟨some 14, none, .mv (.t 4)⟩,
      ⟨some 15, none, .ia 3 (.t 13) (.t 14)⟩,
      ⟨some 16, none, .fa 2 (.t 15)⟩,
      ⟨some 17, none, .ld (.t 16)⟩,
      ⟨some 18, none, .call (.k (.fn n_spec_l1Gcd [] [])) [.t 12, .t 17]⟩,
      ⟨some 19, none, .bin .quo (.t 11) (.t 18)⟩,
      ⟨some 20, none, .mv (.t 0)⟩,
      ⟨some 21, none, .mv (.t 4)⟩,
      ⟨some 22, none, .ia 3 (.t 20) (.t 21)⟩,
      ⟨some 23, none, .fa 2 (.t 22)⟩,
      ⟨some 24, none, .ld (.t 23)⟩,
      ⟨some 25, none, .bin .mul (.t 19) (.t 24)⟩,
      ⟨some 3, none, .mv (.t 25)⟩]))
    (.ops [⟨some 9, none, .mv (.t 4)⟩,
      ⟨some 10, none, .bin .add (.t 9) (.k (.i .i64 1))⟩,
      ⟨some 4, none, .mv (.t 10)⟩]))
def c_spec_l1Hyper : LC := .seq (.ops [⟨some 2, none, .mv (.k (.i .i64 0))⟩])
    (.seq (.ops [⟨some 3, none, .mv (.k (.i .i64 1))⟩])
    (.seq (.seq (.ops [⟨some 4, none, .mv (.k (.i .i64 0))⟩])
    (.block 0 (.loop l0_spec_l1Hyper)))
    (.seq (.ops [⟨some 26, none, .mv (.t 3)⟩,
      ⟨some 2, none, .mv (.t 26)⟩])
    (.ret))))
theorem k_spec_l1Hyper : chkF Try.prog Try.f51 27 c_spec_l1Hyper [.t 2] = true := by kernel_rfl
theorem call_spec_l1Hyper {args : List AV} {σ : List AB} {K : AV → List AB → Prop} (hn : args.length ≤ 27) (hw : wpC Try.prog σ.length 27 c_spec_l1Hyper (retP σ.length [.t 2] K) ⟨initT 0 args, σ⟩) : CallWp Try.prog n_spec_l1Hyper args σ K := call_fn mixed Try.func51 k_spec_l1Hyper hn hw

-- loop.example/deadlinescheduler/spec.l2Edf
def c_spec_l2Edf : LC := .seq (.ops [⟨some 2, none, .mv (.k (.b false))⟩])
    (.seq (.ops [⟨some 3, none, .mv (.t 0)⟩,
      ⟨some 4, none, .mv (.t 0)⟩,
      ⟨some 5, none, .call (.k (.fn n_spec_l1Hyper [] [])) [.t 4]⟩,
      ⟨some 6, none, .call (.k (.fn n_spec_l2Overload [] [])) [.t 3, .t 5]⟩,
      ⟨some 7, none, .bin .eql (.t 6) (.k (.i .i64 (-1)))⟩,
      ⟨some 2, none, .mv (.t 7)⟩])
    (.ret))
theorem k_spec_l2Edf : chkF Try.prog Try.f52 8 c_spec_l2Edf [.t 2] = true := by kernel_rfl
theorem call_spec_l2Edf {args : List AV} {σ : List AB} {K : AV → List AB → Prop} (hn : args.length ≤ 8) (hw : wpC Try.prog σ.length 8 c_spec_l2Edf (retP σ.length [.t 2] K) ⟨initT 0 args, σ⟩) : CallWp Try.prog n_spec_l2Edf args σ K := call_fn mixed Try.func52 k_spec_l2Edf hn hw

-- loop.example/deadlinescheduler/spec.l13Due
-- region 1 draws, 19 of 20 first
def c_spec_l13Due : LC := .seq (.ops [⟨some 6, none, .mv (.k (.i .i64 0))⟩])
    (.seq (.draw 19 [⟨some 7, none, .mv (.t 2)⟩,
      ⟨some 8, none, .mv (.t 0)⟩,
      ⟨some 9, none, .mv (.t 1)⟩,
      ⟨some 10, none, .ia 3 (.t 8) (.t 9)⟩,
      ⟨some 11, none, .fa 2 (.t 10)⟩,
      ⟨some 12, none, .ld (.t 11)⟩,
      ⟨some 13, none, .bin .quo (.t 7) (.t 12)⟩,
      ⟨some 14, none, .mv (.t 0)⟩,
      ⟨some 15, none, .mv (.t 1)⟩,
      ⟨some 16, none, .ia 3 (.t 14) (.t 15)⟩,
      ⟨some 17, none, .fa 2 (.t 16)⟩,
      ⟨some 18, none, .ld (.t 17)⟩,
      ⟨some 19, none, .bin .mul (.t 13) (.t 18)⟩,
      ⟨some 20, none, .mv (.t 0)⟩,
      ⟨some 21, none, .mv (.t 1)⟩,
      ⟨some 22, none, .ia 3 (.t 20) (.t 21)⟩,
      ⟨some 23, none, .fa 1 (.t 22)⟩,
      ⟨some 24, none, .ld (.t 23)⟩,
      ⟨some 25, none, .bin .add (.t 19) (.t 24)⟩,
      ⟨some 6, none, .mv (.t 25)⟩])
    (.ret))
theorem k_spec_l13Due : chkF Try.prog Try.f53 26 c_spec_l13Due [.t 6] = true := by kernel_rfl
theorem call_spec_l13Due {args : List AV} {σ : List AB} {K : AV → List AB → Prop} (hn : args.length ≤ 26) (hw : wpC Try.prog σ.length 26 c_spec_l13Due (retP σ.length [.t 6] K) ⟨initT 0 args, σ⟩) : CallWp Try.prog n_spec_l13Due args σ K := call_fn mixed Try.func53 k_spec_l13Due hn hw

-- loop.example/deadlinescheduler/impl.TaskValid
def c_impl_TaskValid : LC := .seq (.ops [⟨some 1, none, .box ty_impl_Task (.t 0)⟩,
      ⟨some 2, none, .mv (.k (.b false))⟩])
    (.seq (.ops [⟨some 3, none, .fa 0 (.t 1)⟩,
      ⟨some 4, none, .ld (.t 3)⟩,
      ⟨some 5, none, .call (.k (.fn n_impl_in [] [])) [.t 4, .k (.i .i64 1), .k (.i .i64 8)]⟩,
      ⟨some 6, none, .mv (.t 5)⟩,
      ⟨some 7, (some (6, true)), .fa 1 (.t 1)⟩,
      ⟨some 8, (some (6, true)), .ld (.t 7)⟩,
      ⟨some 9, (some (6, true)), .fa 0 (.t 1)⟩,
      ⟨some 10, (some (6, true)), .ld (.t 9)⟩,
      ⟨some 11, (some (6, true)), .fa 2 (.t 1)⟩,
      ⟨some 12, (some (6, true)), .ld (.t 11)⟩,
      ⟨some 13, (some (6, true)), .call (.k (.fn n_impl_in [] [])) [.t 8, .t 10, .t 12]⟩,
      ⟨some 14, none, .pick (.t 6) (.t 13) (.k (.b false))⟩,
      ⟨some 15, none, .mv (.t 14)⟩,
      ⟨some 16, (some (15, true)), .fa 2 (.t 1)⟩,
      ⟨some 17, (some (15, true)), .ld (.t 16)⟩,
      ⟨some 18, (some (15, true)), .bin .leq (.t 17) (.k (.i .i64 12))⟩,
      ⟨some 19, none, .pick (.t 15) (.t 18) (.k (.b false))⟩,
      ⟨some 2, none, .mv (.t 19)⟩])
    (.ret))
theorem k_impl_TaskValid : chkF Try.prog Try.f54 20 c_impl_TaskValid [.t 2] = true := by kernel_rfl
theorem call_impl_TaskValid {args : List AV} {σ : List AB} {K : AV → List AB → Prop} (hn : args.length ≤ 20) (hw : wpC Try.prog σ.length 20 c_impl_TaskValid (retP σ.length [.t 2] K) ⟨initT 0 args, σ⟩) : CallWp Try.prog n_impl_TaskValid args σ K := call_fn mixed Try.func54 k_impl_TaskValid hn hw

-- loop.example/deadlinescheduler/impl.in
def c_impl_in : LC := .seq (.ops [⟨some 6, none, .mv (.k (.b false))⟩])
    (.seq (.ops [⟨some 7, none, .mv (.t 0)⟩,
      ⟨some 8, none, .mv (.t 1)⟩,
      ⟨some 9, none, .bin .geq (.t 7) (.t 8)⟩,
      ⟨some 10, none, .mv (.t 9)⟩,
      ⟨some 11, (some (10, true)), .mv (.t 0)⟩,
      ⟨some 12, (some (10, true)), .mv (.t 2)⟩,
      ⟨some 13, (some (10, true)), .bin .leq (.t 11) (.t 12)⟩,
      ⟨some 14, none, .pick (.t 10) (.t 13) (.k (.b false))⟩,
      ⟨some 6, none, .mv (.t 14)⟩])
    (.ret))
theorem k_impl_in : chkF Try.prog Try.f55 15 c_impl_in [.t 6] = true := by kernel_rfl
theorem call_impl_in {args : List AV} {σ : List AB} {K : AV → List AB → Prop} (hn : args.length ≤ 15) (hw : wpC Try.prog σ.length 15 c_impl_in (retP σ.length [.t 6] K) ⟨initT 0 args, σ⟩) : CallWp Try.prog n_impl_in args σ K := call_fn mixed Try.func55 k_impl_in hn hw

-- slices.Clip[[]loop.example/deadlinescheduler/impl.Job,loop.example/deadlinescheduler/impl.Job]
def c_slices_Clip_impl_Job : LC := .seq (.ops [⟨some 2, none, .mv (.k (.sn))⟩])
    (.seq (.ops [⟨some 3, none, .mv (.t 0)⟩,
      ⟨some 4, none, .mv (.t 0)⟩,
      ⟨some 5, none, .len (.t 4)⟩,
      ⟨some 6, none, .mv (.t 0)⟩,
      ⟨some 7, none, .len (.t 6)⟩,
      ⟨some 8, none, .slc 4 (.t 3) none (some (.t 5)) (some (.t 7))⟩,
      ⟨some 2, none, .mv (.t 8)⟩])
    (.ret))
theorem k_slices_Clip_impl_Job : chkF Try.prog Try.f56 9 c_slices_Clip_impl_Job [.t 2] = true := by kernel_rfl
theorem call_slices_Clip_impl_Job {args : List AV} {σ : List AB} {K : AV → List AB → Prop} (hn : args.length ≤ 9) (hw : wpC Try.prog σ.length 9 c_slices_Clip_impl_Job (retP σ.length [.t 2] K) ⟨initT 0 args, σ⟩) : CallWp Try.prog n_slices_Clip_impl_Job args σ K := call_fn mixed Try.func56 k_slices_Clip_impl_Job hn hw

-- loop.example/deadlinescheduler/impl.JobsLegal
def c_impl_JobsLegal : LC := .seq (.ops [⟨some 2, none, .box ty_sl_impl_Task (.t 0)⟩,
      ⟨some 4, none, .mv (.k (.b false))⟩])
    (.seq (.ops [⟨some 5, none, .ld (.t 2)⟩,
      ⟨some 6, none, .call (.k (.fn n_impl_SetValid [] [])) [.t 5]⟩,
      ⟨some 7, none, .mv (.t 6)⟩,
      ⟨some 8, (some (7, true)), .mv (.t 1)⟩,
      ⟨some 9, (some (7, true)), .ld (.t 2)⟩,
      ⟨some 10, (some (7, true)), .len (.t 9)⟩,
      ⟨some 11, (some (7, true)), .mkf n_impl_JobsLegal_1 [] [.t 2]⟩,
      ⟨some 12, (some (7, true)), .call (.k (.fn n_impl_ordered [] [])) [.t 8, .t 10, .t 11]⟩,
      ⟨some 13, none, .pick (.t 7) (.t 12) (.k (.b false))⟩,
      ⟨some 14, none, .mv (.t 13)⟩,
      ⟨some 15, (some (14, true)), .mv (.t 1)⟩,
      ⟨some 16, (some (14, true)), .mkf n_impl_JobsLegal_2 [] [.t 2]⟩,
      ⟨some 17, (some (14, true)), .call (.k (.fn n_impl_spaced [] [])) [.t 15, .k (.fn n_impl_release [] []), .t 16]⟩,
      ⟨some 18, none, .pick (.t 14) (.t 17) (.k (.b false))⟩,
      ⟨some 19, none, .mv (.t 18)⟩,
      ⟨some 20, (some (19, true)), .mv (.t 1)⟩,
      ⟨some 21, (some (19, true)), .mkf n_impl_JobsLegal_3 [] [.t 2]⟩,
      ⟨some 22, (some (19, true)), .call (.k (.fn n_slices_ContainsFunc_impl_Job [] [])) [.t 20, .t 21]⟩,
      ⟨some 23, (some (19, true)), .not (.t 22)⟩,
      ⟨some 24, none, .pick (.t 19) (.t 23) (.k (.b false))⟩,
      ⟨some 4, none, .mv (.t 24)⟩])
    (.ret))
theorem k_impl_JobsLegal : chkF Try.prog Try.f57 25 c_impl_JobsLegal [.t 4] = true := by kernel_rfl
theorem call_impl_JobsLegal {args : List AV} {σ : List AB} {K : AV → List AB → Prop} (hn : args.length ≤ 25) (hw : wpC Try.prog σ.length 25 c_impl_JobsLegal (retP σ.length [.t 4] K) ⟨initT 0 args, σ⟩) : CallWp Try.prog n_impl_JobsLegal args σ K := call_fn mixed Try.func57 k_impl_JobsLegal hn hw

-- loop.example/deadlinescheduler/impl.simulate
-- region 6 draws, 7 of 9 first
-- region 9 draws, 13 of 13 first
-- region 10 draws, 8 of 10 first
-- l0_impl_simulate: live at the head: 0 1 4 5 6
def l0_impl_simulate : LC := .seq (.seq (.ops [⟨some 15, none, .mv (.t 5)⟩,
      ⟨some 16, none, .nilc (.t 15)⟩,
      ⟨some 17, none, .fa 2 (.t 16)⟩,
      ⟨some 18, none, .ld (.t 17)⟩,
      ⟨some 19, none, .bin .lss (.t 18) (.k (.i .i64 120))⟩])
    (.cond (.t 19) (.skip)
    (.exit 0)))
    (.seq (.block 1 (.seq (.ops [⟨some 27, none, .mv (.t 1)⟩,
      ⟨some 28, none, .mv (.t 5)⟩,
      ⟨some 29, none, .call (.t 27) [.t 28]⟩,
      ⟨some 7, none, .mv (.t 29)⟩])
    (.seq (.draw 7 [⟨some 30, none, .fa 0 (.t 6)⟩,
      ⟨some 31, none, .ld (.t 30)⟩,
      ⟨some 32, none, .mv (.t 5)⟩,
      ⟨some 33, none, .nilc (.t 32)⟩,
      ⟨some 34, none, .fa 2 (.t 33)⟩,
      ⟨some 35, none, .ld (.t 34)⟩,
      ⟨some 36, none, .mv (.t 7)⟩,
      ⟨some 37, none, .ia 1 (.t 31) (.t 35)⟩,
      ⟨none, none, .st 1 (.t 37) (.t 36)⟩])
    (.seq (.seq (.ops [⟨some 38, none, .mv (.t 7)⟩,
      ⟨some 39, none, .bin .lss (.t 38) (.k (.i .i64 0))⟩])
    (.cond (.t 39) (.exit 1)
    (.skip)))
    (.seq (.ops [⟨some 40, none, .mv (.t 5)⟩,
      ⟨some 41, none, .nilc (.t 40)⟩,
      ⟨some 42, none, .fa 1 (.t 41)⟩,
      ⟨some 43, none, .ld (.t 42)⟩,
      ⟨some 44, none, .mv (.t 7)⟩,
      ⟨some 45, none, .ia 1 (.t 43) (.t 44)⟩,
      ⟨some 46, none, .ld (.t 45)⟩,
      ⟨some 47, none, .bin .add (.t 46) (.k (.i .i64 1))⟩,
      ⟨some 48, none, .ia 1 (.t 43) (.t 44)⟩,
      ⟨none, none, .st 1 (.t 48) (.t 47)⟩])
    (.seq (.draw 13 [⟨some 49, none, .mv (.t 5)⟩,
      ⟨some 50, none, .nilc (.t 49)⟩,
      ⟨some 51, none, .fa 1 (.t 50)⟩,
      ⟨some 52, none, .ld (.t 51)⟩,
      ⟨some 53, none, .mv (.t 7)⟩,
      ⟨some 54, none, .ia 1 (.t 52) (.t 53)⟩,
      ⟨some 55, none, .ld (.t 54)⟩,
      ⟨some 56, none, .mv (.t 0)⟩,
      ⟨some 57, none, .mv (.t 7)⟩,
      ⟨some 58, none, .ia 4 (.t 56) (.t 57)⟩,
      ⟨some 59, none, .fa 3 (.t 58)⟩,
      ⟨some 60, none, .ld (.t 59)⟩,
      ⟨some 61, none, .bin .eql (.t 55) (.t 60)⟩])
    (.cond (.t 61) (.draw 8 [⟨some 62, none, .fa 1 (.t 6)⟩,
      ⟨some 63, none, .ld (.t 62)⟩,
      ⟨some 64, none, .mv (.t 7)⟩,
      ⟨some 65, none, .mv (.t 5)⟩,
      ⟨some 66, none, .nilc (.t 65)⟩,
      ⟨some 67, none, .fa 2 (.t 66)⟩,
      ⟨some 68, none, .ld (.t 67)⟩,
      ⟨some 69, none, .bin .add (.t 68) (.k (.i .i64 1))⟩,
      ⟨some 70, none, .ia 1 (.t 63) (.t 64)⟩,
      ⟨none, none, .st 1 (.t 70) (.t 69)⟩])
    (.skip))))))))
    (.ops [⟨some 20, none, .mv (.t 5)⟩,
      ⟨some 21, none, .nilc (.t 20)⟩,
      ⟨some 22, none, .fa 2 (.t 21)⟩,
      ⟨some 23, none, .ld (.t 22)⟩,
      ⟨some 24, none, .bin .add (.t 23) (.k (.i .i64 1))⟩,
      ⟨some 25, none, .nilc (.t 20)⟩,
      ⟨some 26, none, .fa 2 (.t 25)⟩,
      ⟨none, none, .st 1 (.t 26) (.t 24)⟩]))
def c_impl_simulate : LC := .seq (.ops [⟨some 4, none, .alloc ty_impl_Schedule [.sn, .sn]⟩])
    (.seq (.ops [⟨some 8, none, .mv (.t 0)⟩,
      ⟨some 9, none, .call (.k (.fn n_impl_newMachine [] [])) [.t 8]⟩,
      ⟨some 5, none, .mv (.t 9)⟩])
    (.seq (.ops [⟨some 10, none, .call (.k (.fn n_impl_none [] [])) [.k (.i .i64 120)]⟩,
      ⟨some 11, none, .mv (.t 0)⟩,
      ⟨some 12, none, .len (.t 11)⟩,
      ⟨some 13, none, .call (.k (.fn n_impl_none [] [])) [.t 12]⟩,
      ⟨some 14, none, .build [.sn, .sn] [(0, 1, .t 10), (1, 1, .t 13)]⟩,
      ⟨some 6, none, .alloc ty_impl_Schedule [.sn, .sn]⟩,
      ⟨none, none, .st 2 (.t 6) (.t 14)⟩])
    (.seq (.block 0 (.loop l0_impl_simulate))
    (.seq (.ops [⟨some 71, none, .ldn 2 (.t 6)⟩,
      ⟨none, none, .st 2 (.t 4) (.t 71)⟩])
    (.ret)))))
theorem k_impl_simulate : chkF Try.prog Try.f58 72 c_impl_simulate [.c 4 (some 2)] = true := by kernel_rfl
theorem call_impl_simulate {args : List AV} {σ : List AB} {K : AV → List AB → Prop} (hn : args.length ≤ 72) (hw : wpC Try.prog σ.length 72 c_impl_simulate (retP σ.length [.c 4 (some 2)] K) ⟨initT 0 args, σ⟩) : CallWp Try.prog n_impl_simulate args σ K := call_fn mixed Try.func58 k_impl_simulate hn hw
theorem callC_impl_simulate {args : List AV} {σ : List AB} {K : AV → List AB → Prop} (hn : args.length ≤ 72) (hw : Closed σ → args.all (below1 σ.length) = true → wpC Try.prog σ.length 72 c_impl_simulate (retP σ.length [.c 4 (some 2)] K) ⟨initT 0 args, σ⟩) : CallWp Try.prog n_impl_simulate args σ K := call_fnC mixed Try.func58 k_impl_simulate hn hw

-- loop.example/deadlinescheduler/impl.edf
def c_impl_edf : LC := .seq (.ops [⟨some 2, none, .mv (.k (.i .i64 0))⟩])
    (.seq (.ops [⟨some 3, none, .mv (.t 0)⟩,
      ⟨some 4, none, .mv (.t 0)⟩,
      ⟨some 5, none, .mkf n_impl_machine_deadline [.t 4] []⟩,
      ⟨some 6, none, .mv (.t 0)⟩,
      ⟨some 7, none, .mkf n_impl_machine_any [.t 6] []⟩,
      ⟨some 8, none, .call (.k (.fn n_impl_machine_best [] [])) [.t 3, .t 5, .t 7]⟩,
      ⟨some 2, none, .mv (.t 8)⟩])
    (.ret))
theorem k_impl_edf : chkF Try.prog Try.f59 9 c_impl_edf [.t 2] = true := by kernel_rfl
theorem call_impl_edf {args : List AV} {σ : List AB} {K : AV → List AB → Prop} (hn : args.length ≤ 9) (hw : wpC Try.prog σ.length 9 c_impl_edf (retP σ.length [.t 2] K) ⟨initT 0 args, σ⟩) : CallWp Try.prog n_impl_edf args σ K := call_fn mixed Try.func59 k_impl_edf hn hw

-- loop.example/deadlinescheduler/spec.l20Cores
def c_spec_l20Cores : LC := .seq (.ops [⟨some 4, none, .mv (.k (.i .i64 0))⟩])
    (.seq (.seq (.ops [⟨some 5, none, .mv (.t 0)⟩,
      ⟨some 6, none, .mv (.t 1)⟩,
      ⟨some 7, none, .call (.k (.fn n_spec_l20Rd_odd [] [])) [.t 5, .t 6]⟩])
    (.cond (.t 7) (.seq (.ops [⟨some 8, none, .bsl ty_int [.i .i64 0] 3 [(0, 1, .k (.i .i64 0)), (1, 1, .k (.i .i64 (-1))), (2, 1, .k (.i .i64 6))]⟩,
      ⟨some 9, none, .mv (.t 0)⟩,
      ⟨some 10, none, .call (.k (.fn n_spec_l20Rd_pick [] [])) [.t 9, .k (.i .i64 3)]⟩,
      ⟨some 11, none, .ia 1 (.t 8) (.t 10)⟩,
      ⟨some 12, none, .ld (.t 11)⟩,
      ⟨some 4, none, .mv (.t 12)⟩])
    (.ret))
    (.skip)))
    (.seq (.ops [⟨some 13, none, .mv (.t 0)⟩,
      ⟨some 14, none, .call (.k (.fn n_spec_l20Rd_pick [] [])) [.t 13, .k (.i .i64 4)]⟩,
      ⟨some 15, none, .bin .add (.k (.i .i64 1)) (.t 14)⟩,
      ⟨some 4, none, .mv (.t 15)⟩])
    (.ret)))
theorem k_spec_l20Cores : chkF Try.prog Try.f60 16 c_spec_l20Cores [.t 4] = true := by kernel_rfl
theorem call_spec_l20Cores {args : List AV} {σ : List AB} {K : AV → List AB → Prop} (hn : args.length ≤ 16) (hw : wpC Try.prog σ.length 16 c_spec_l20Cores (retP σ.length [.t 4] K) ⟨initT 0 args, σ⟩) : CallWp Try.prog n_spec_l20Cores args σ K := call_fn mixed Try.func60 k_spec_l20Cores hn hw

-- loop.example/deadlinescheduler/impl.isCores
def c_impl_isCores : LC := .seq (.ops [⟨some 2, none, .mv (.k (.b false))⟩])
    (.seq (.ops [⟨some 3, none, .mv (.t 0)⟩,
      ⟨some 4, none, .call (.k (.fn n_impl_in [] [])) [.t 3, .k (.i .i64 1), .k (.i .i64 5)]⟩,
      ⟨some 2, none, .mv (.t 4)⟩])
    (.ret))
theorem k_impl_isCores : chkF Try.prog Try.f61 5 c_impl_isCores [.t 2] = true := by kernel_rfl
theorem call_impl_isCores {args : List AV} {σ : List AB} {K : AV → List AB → Prop} (hn : args.length ≤ 5) (hw : wpC Try.prog σ.length 5 c_impl_isCores (retP σ.length [.t 2] K) ⟨initT 0 args, σ⟩) : CallWp Try.prog n_impl_isCores args σ K := call_fn mixed Try.func61 k_impl_isCores hn hw

-- loop.example/deadlinescheduler/impl.onCore
-- l0_impl_onCore: live at the head: 0 2 7 10 11 12
def l0_impl_onCore : LC := .seq (.ops [⟨some 13, none, .bin .lss (.t 12) (.t 11)⟩])
    (.seq (.cond (.t 13) (.skip)
    (.exit 0))
    (.seq (.block 1 (.seq (.ops [⟨some 14, none, .mv (.t 12)⟩,
      ⟨some 15, none, .ia 1 (.t 10) (.t 12)⟩,
      ⟨some 16, none, .ld (.t 15)⟩,
      ⟨some 8, none, .mv (.t 14)⟩,
      ⟨some 9, none, .mv (.t 16)⟩])
    (.seq (.ops [⟨some 17, none, .mv (.t 9)⟩,
      ⟨some 18, none, .mv (.t 2)⟩,
      ⟨some 19, none, .bin .eql (.t 17) (.t 18)⟩])
    (.cond (.t 19) (.ops [⟨some 20, none, .mv (.t 7)⟩,
      ⟨some 21, none, .mv (.t 0)⟩,
      ⟨some 22, none, .mv (.t 8)⟩,
      ⟨some 23, none, .ia 3 (.t 21) (.t 22)⟩,
      ⟨some 24, none, .ldn 3 (.t 23)⟩,
      ⟨some 25, none, .bsl ty_impl_Task [.i .i64 0, .i .i64 0, .i .i64 0] 1 [(0, 3, .t 24)]⟩,
      ⟨some 26, none, .app ty_impl_Task 3 24 (.t 20) (.t 25)⟩,
      ⟨some 7, none, .mv (.t 26)⟩])
    (.skip)))))
    (.ops [⟨some 27, none, .bin .add (.t 12) (.k (.i .i64 1))⟩,
      ⟨some 12, none, .mv (.t 27)⟩])))
def c_impl_onCore : LC := .seq (.ops [⟨some 6, none, .mv (.k (.sn))⟩])
    (.seq (.ops [⟨some 7, none, .mv (.k (.sn))⟩])
    (.seq (.seq (.ops [⟨some 10, none, .mv (.t 1)⟩,
      ⟨some 11, none, .len (.t 10)⟩,
      ⟨some 12, none, .mv (.k (.i .i64 0))⟩])
    (.block 0 (.loop l0_impl_onCore)))
    (.seq (.ops [⟨some 28, none, .mv (.t 7)⟩,
      ⟨some 29, none, .call (.k (.fn n_slices_Clip_impl_Task [] [])) [.t 28]⟩,
      ⟨some 6, none, .mv (.t 29)⟩])
    (.ret))))
theorem k_impl_onCore : chkF Try.prog Try.f62 30 c_impl_onCore [.t 6] = true := by kernel_rfl
theorem call_impl_onCore {args : List AV} {σ : List AB} {K : AV → List AB → Prop} (hn : args.length ≤ 30) (hw : wpC Try.prog σ.length 30 c_impl_onCore (retP σ.length [.t 6] K) ⟨initT 0 args, σ⟩) : CallWp Try.prog n_impl_onCore args σ K := call_fn mixed Try.func62 k_impl_onCore hn hw

-- loop.example/deadlinescheduler/spec.l1In
def c_spec_l1In : LC := .seq (.ops [⟨some 6, none, .mv (.k (.b false))⟩])
    (.seq (.ops [⟨some 7, none, .mv (.t 0)⟩,
      ⟨some 8, none, .mv (.t 1)⟩,
      ⟨some 9, none, .bin .geq (.t 7) (.t 8)⟩,
      ⟨some 10, none, .mv (.t 9)⟩,
      ⟨some 11, (some (10, true)), .mv (.t 0)⟩,
      ⟨some 12, (some (10, true)), .mv (.t 2)⟩,
      ⟨some 13, (some (10, true)), .bin .leq (.t 11) (.t 12)⟩,
      ⟨some 14, none, .pick (.t 10) (.t 13) (.k (.b false))⟩,
      ⟨some 6, none, .mv (.t 14)⟩])
    (.ret))
theorem k_spec_l1In : chkF Try.prog Try.f63 15 c_spec_l1In [.t 6] = true := by kernel_rfl
theorem call_spec_l1In {args : List AV} {σ : List AB} {K : AV → List AB → Prop} (hn : args.length ≤ 15) (hw : wpC Try.prog σ.length 15 c_spec_l1In (retP σ.length [.t 6] K) ⟨initT 0 args, σ⟩) : CallWp Try.prog n_spec_l1In args σ K := call_fn mixed Try.func63 k_spec_l1In hn hw

-- loop.example/deadlinescheduler/spec.l7First
-- region 4: a plan with 2 orders
-- a cut
-- l0_spec_l7First: live at the head: 0 1 2 3 9
def l0_spec_l7First : LC := .seq (.seq (.ops [⟨some 10, none, .mv (.t 9)⟩,
      ⟨some 11, none, .mv (.t 1)⟩,
      ⟨some 12, none, .bin .lss (.t 10) (.t 11)⟩])
    (.cond (.t 12) (.skip)
    (.exit 0)))
    (.seq (.block 1 (.join (.plan [0, 1, 2, 4, 5, 6, 7] [⟨some 15, none, .mv (.t 0)⟩,
      ⟨some 16, none, .mv (.t 2)⟩,
      ⟨some 17, none, .mv (.t 9)⟩,
      ⟨some 19, none, .mv (.t 0)⟩,
      ⟨some 20, none, .mv (.t 3)⟩,
      ⟨some 21, none, .ia 3 (.t 19) (.t 20)⟩,
      ⟨some 22, none, .ldn 3 (.t 21)⟩]
      (.alt (.one 3 ⟨some 18, none, .call (.k (.fn n_spec_l7On [] [])) [.t 15, .t 16, .t 17]⟩ [(22, some 3, 21)] []
        []
      (.one 8 ⟨some 23, none, .bsl ty_impl_Task [.i .i64 0, .i .i64 0, .i .i64 0] 1 [(0, 3, .t 22)]⟩ [] []
        []
      (.one 9 ⟨some 24, none, .app ty_impl_Task 3 24 (.t 18) (.t 23)⟩ [(22, some 3, 21)] []
        []
      (.one 10 ⟨some 25, none, .call (.k (.fn n_spec_l2Edf [] [])) [.t 24]⟩ [(22, some 3, 21)] []
        []
      .fin)))) (.one 8 ⟨some 23, none, .bsl ty_impl_Task [.i .i64 0, .i .i64 0, .i .i64 0] 1 [(0, 3, .t 22)]⟩ [] []
        []
      (.one 3 ⟨some 18, none, .call (.k (.fn n_spec_l7On [] [])) [.t 15, .t 16, .t 17]⟩ [(22, some 3, 21)] []
        []
      (.one 9 ⟨some 24, none, .app ty_impl_Task 3 24 (.t 18) (.t 23)⟩ [(22, some 3, 21)] []
        []
      (.one 10 ⟨some 25, none, .call (.k (.fn n_spec_l2Edf [] [])) [.t 24]⟩ [(22, some 3, 21)] []
        []
      .fin))))))
    (.cond (.t 25) (.seq (.ops [⟨some 26, none, .mv (.t 9)⟩,
      ⟨some 8, none, .mv (.t 26)⟩])
    (.ret))
    (.skip))))
    (.ops [⟨some 13, none, .mv (.t 9)⟩,
      ⟨some 14, none, .bin .add (.t 13) (.k (.i .i64 1))⟩,
      ⟨some 9, none, .mv (.t 14)⟩]))
def c_spec_l7First : LC := .seq (.ops [⟨some 8, none, .mv (.k (.i .i64 0))⟩])
    (.seq (.seq (.ops [⟨some 9, none, .mv (.k (.i .i64 0))⟩])
    (.block 0 (.loop l0_spec_l7First)))
    (.seq (.ops [⟨some 8, none, .mv (.k (.i .i64 (-1)))⟩])
    (.ret)))
theorem k_spec_l7First : chkF Try.prog Try.f64 27 c_spec_l7First [.t 8] = true := by kernel_rfl
theorem call_spec_l7First {args : List AV} {σ : List AB} {K : AV → List AB → Prop} (hn : args.length ≤ 27) (hw : wpC Try.prog σ.length 27 c_spec_l7First (retP σ.length [.t 8] K) ⟨initT 0 args, σ⟩) : CallWp Try.prog n_spec_l7First args σ K := call_fn mixed Try.func64 k_spec_l7First hn hw

-- loop.example/deadlinescheduler/impl.AssignmentValid
def c_impl_AssignmentValid : LC := .seq (.ops [⟨some 4, none, .box ty_int (.t 1)⟩,
      ⟨some 6, none, .mv (.k (.b false))⟩])
    (.seq (.ops [⟨some 7, none, .mv (.t 0)⟩,
      ⟨some 8, none, .call (.k (.fn n_impl_SetValid [] [])) [.t 7]⟩,
      ⟨some 9, none, .mv (.t 8)⟩,
      ⟨some 10, (some (9, true)), .ld (.t 4)⟩,
      ⟨some 11, (some (9, true)), .call (.k (.fn n_impl_isCores [] [])) [.t 10]⟩,
      ⟨some 12, none, .pick (.t 9) (.t 11) (.k (.b false))⟩,
      ⟨some 13, none, .mv (.t 12)⟩,
      ⟨some 14, (some (13, true)), .mv (.t 2)⟩,
      ⟨some 15, (some (13, true)), .len (.t 14)⟩,
      ⟨some 16, (some (13, true)), .mv (.t 0)⟩,
      ⟨some 17, (some (13, true)), .len (.t 16)⟩,
      ⟨some 18, (some (13, true)), .bin .eql (.t 15) (.t 17)⟩,
      ⟨some 19, none, .pick (.t 13) (.t 18) (.k (.b false))⟩,
      ⟨some 20, none, .mv (.t 19)⟩,
      ⟨some 21, (some (20, true)), .mv (.t 2)⟩,
      ⟨some 22, (some (20, true)), .mkf n_impl_AssignmentValid_1 [] [.t 4]⟩,
      ⟨some 23, (some (20, true)), .call (.k (.fn n_slices_ContainsFunc_int [] [])) [.t 21, .t 22]⟩,
      ⟨some 24, (some (20, true)), .not (.t 23)⟩,
      ⟨some 25, none, .pick (.t 20) (.t 24) (.k (.b false))⟩,
      ⟨some 6, none, .mv (.t 25)⟩])
    (.ret))
theorem k_impl_AssignmentValid : chkF Try.prog Try.f65 26 c_impl_AssignmentValid [.t 6] = true := by kernel_rfl
theorem call_impl_AssignmentValid {args : List AV} {σ : List AB} {K : AV → List AB → Prop} (hn : args.length ≤ 26) (hw : wpC Try.prog σ.length 26 c_impl_AssignmentValid (retP σ.length [.t 6] K) ⟨initT 0 args, σ⟩) : CallWp Try.prog n_impl_AssignmentValid args σ K := call_fn mixed Try.func65 k_impl_AssignmentValid hn hw

-- loop.example/deadlinescheduler/spec.l7Search
-- region 12: a plan with 2 orders
-- a cut
-- a cut
-- l1_spec_l7Search: live at the head: 0 1 2 8 9 10
-- l0_spec_l7Search: live at the head: 0 1 2 8 9 11
def l0_spec_l7Search : LC := .seq (.seq (.ops [⟨some 33, none, .mv (.t 11)⟩,
      ⟨some 34, none, .mv (.t 1)⟩,
      ⟨some 35, none, .mv (.t 9)⟩,
      ⟨some 36, none, .bin .add (.t 35) (.k (.i .i64 1))⟩,
      ⟨some 37, none, .mn (.t 34) (.t 36)⟩,
      ⟨some 38, none, .bin .lss (.t 33) (.t 37)⟩])
    (.cond (.t 38) (.skip)
    (.exit 2)))
    (.seq (.block 3 (.join (.join (.plan [0, 1, 2, 4, 5, 6, 7] [⟨some 41, none, .mv (.t 0)⟩,
      ⟨some 42, none, .mv (.t 2)⟩,
      ⟨some 43, none, .mv (.t 11)⟩,
      ⟨some 45, none, .mv (.t 0)⟩,
      ⟨some 46, none, .mv (.t 8)⟩,
      ⟨some 47, none, .ia 3 (.t 45) (.t 46)⟩,
      ⟨some 48, none, .ldn 3 (.t 47)⟩]
      (.alt (.one 3 ⟨some 44, none, .call (.k (.fn n_spec_l7On [] [])) [.t 41, .t 42, .t 43]⟩ [(48, some 3, 47)] []
        []
      (.one 8 ⟨some 49, none, .bsl ty_impl_Task [.i .i64 0, .i .i64 0, .i .i64 0] 1 [(0, 3, .t 48)]⟩ [] []
        []
      (.one 9 ⟨some 50, none, .app ty_impl_Task 3 24 (.t 44) (.t 49)⟩ [(48, some 3, 47)] []
        []
      (.one 10 ⟨some 51, none, .call (.k (.fn n_spec_l2Edf [] [])) [.t 50]⟩ [(48, some 3, 47)] [11]
        [⟨some 52, none, .not (.t 51)⟩]
      .fin)))) (.one 8 ⟨some 49, none, .bsl ty_impl_Task [.i .i64 0, .i .i64 0, .i .i64 0] 1 [(0, 3, .t 48)]⟩ [] []
        []
      (.one 3 ⟨some 44, none, .call (.k (.fn n_spec_l7On [] [])) [.t 41, .t 42, .t 43]⟩ [(48, some 3, 47)] []
        []
      (.one 9 ⟨some 50, none, .app ty_impl_Task 3 24 (.t 44) (.t 49)⟩ [(48, some 3, 47)] []
        []
      (.one 10 ⟨some 51, none, .call (.k (.fn n_spec_l2Edf [] [])) [.t 50]⟩ [(48, some 3, 47)] [11]
        [⟨some 52, none, .not (.t 51)⟩]
      .fin))))))
    (.cond (.t 52) (.exit 3)
    (.skip)))
    (.seq (.ops [⟨some 54, none, .mv (.t 0)⟩,
      ⟨some 55, none, .mv (.t 1)⟩,
      ⟨some 56, none, .bsl ty_int [.i .i64 0] 0 []⟩,
      ⟨some 57, none, .mv (.t 2)⟩,
      ⟨some 58, none, .app ty_int 1 8 (.t 56) (.t 57)⟩,
      ⟨some 59, none, .mv (.t 11)⟩,
      ⟨some 60, none, .bsl ty_int [.i .i64 0] 1 [(0, 1, .t 59)]⟩,
      ⟨some 61, none, .app ty_int 1 8 (.t 58) (.t 60)⟩,
      ⟨some 62, none, .call (.k (.fn n_spec_l7Search [] [])) [.t 54, .t 55, .t 61]⟩,
      ⟨some 53, none, .mv (.t 62)⟩,
      ⟨some 63, none, .ext 0 (.t 53)⟩,
      ⟨some 64, none, .ext 1 (.t 53)⟩,
      ⟨some 12, none, .mv (.t 63)⟩,
      ⟨some 13, none, .mv (.t 64)⟩])
    (.seq (.ops [⟨some 65, none, .mv (.t 13)⟩])
    (.cond (.t 65) (.seq (.ops [⟨some 66, none, .mv (.t 12)⟩,
      ⟨some 6, none, .mv (.t 66)⟩,
      ⟨some 7, none, .mv (.k (.b true))⟩])
    (.ret))
    (.skip))))))
    (.ops [⟨some 39, none, .mv (.t 11)⟩,
      ⟨some 40, none, .bin .add (.t 39) (.k (.i .i64 1))⟩,
      ⟨some 11, none, .mv (.t 40)⟩]))
def l1_spec_l7Search : LC := .seq (.seq (.ops [⟨some 21, none, .mv (.t 10)⟩,
      ⟨some 22, none, .mv (.t 8)⟩,
      ⟨some 23, none, .bin .lss (.t 21) (.t 22)⟩])
    (.cond (.t 23) (.skip)
    (.exit 0)))
    (.seq (.block 1 (.ops [⟨some 26, none, .mv (.t 9)⟩,
      ⟨some 27, none, .mv (.t 2)⟩,
      ⟨some 28, none, .mv (.t 10)⟩,
      ⟨some 29, none, .ia 1 (.t 27) (.t 28)⟩,
      ⟨some 30, none, .ld (.t 29)⟩,
      ⟨some 31, none, .bin .add (.t 30) (.k (.i .i64 1))⟩,
      ⟨some 32, none, .mx (.t 26) (.t 31)⟩,
      ⟨some 9, none, .mv (.t 32)⟩]))
    (.ops [⟨some 24, none, .mv (.t 10)⟩,
      ⟨some 25, none, .bin .add (.t 24) (.k (.i .i64 1))⟩,
      ⟨some 10, none, .mv (.t 25)⟩]))
def c_spec_l7Search : LC := .seq (.ops [⟨some 6, none, .mv (.k (.sn))⟩,
      ⟨some 7, none, .mv (.k (.b false))⟩])
    (.seq (.ops [⟨some 14, none, .mv (.t 2)⟩,
      ⟨some 15, none, .len (.t 14)⟩,
      ⟨some 8, none, .mv (.t 15)⟩])
    (.seq (.seq (.ops [⟨some 16, none, .mv (.t 8)⟩,
      ⟨some 17, none, .mv (.t 0)⟩,
      ⟨some 18, none, .len (.t 17)⟩,
      ⟨some 19, none, .bin .eql (.t 16) (.t 18)⟩])
    (.cond (.t 19) (.seq (.ops [⟨some 20, none, .mv (.t 2)⟩,
      ⟨some 6, none, .mv (.t 20)⟩,
      ⟨some 7, none, .mv (.k (.b true))⟩])
    (.ret))
    (.skip)))
    (.seq (.ops [⟨some 9, none, .mv (.k (.i .i64 0))⟩])
    (.seq (.seq (.ops [⟨some 10, none, .mv (.k (.i .i64 0))⟩])
    (.block 0 (.loop l1_spec_l7Search)))
    (.seq (.seq (.ops [⟨some 11, none, .mv (.k (.i .i64 0))⟩])
    (.block 2 (.loop l0_spec_l7Search)))
    (.seq (.ops [⟨some 67, none, .bsl ty_int [.i .i64 0] 0 []⟩,
      ⟨some 6, none, .mv (.t 67)⟩,
      ⟨some 7, none, .mv (.k (.b false))⟩])
    (.ret)))))))
theorem k_spec_l7Search : chkF Try.prog Try.f66 68 c_spec_l7Search [.t 6, .t 7] = true := by kernel_rfl
theorem call_spec_l7Search {args : List AV} {σ : List AB} {K : AV → List AB → Prop} (hn : args.length ≤ 68) (hw : wpC Try.prog σ.length 68 c_spec_l7Search (retP σ.length [.t 6, .t 7] K) ⟨initT 0 args, σ⟩) : CallWp Try.prog n_spec_l7Search args σ K := call_fn mixed Try.func66 k_spec_l7Search hn hw
theorem callC_spec_l7Search {args : List AV} {σ : List AB} {K : AV → List AB → Prop} (hn : args.length ≤ 68) (hw : Closed σ → args.all (below1 σ.length) = true → wpC Try.prog σ.length 68 c_spec_l7Search (retP σ.length [.t 6, .t 7] K) ⟨initT 0 args, σ⟩) : CallWp Try.prog n_spec_l7Search args σ K := call_fnC mixed Try.func66 k_spec_l7Search hn hw

-- loop.example/deadlinescheduler/spec.TaskValid
def c_spec_TaskValid : LC := .seq (.ops [⟨some 1, none, .box ty_impl_Task (.t 0)⟩,
      ⟨some 2, none, .mv (.k (.b false))⟩])
    (.seq (.ops [⟨some 3, none, .fa 0 (.t 1)⟩,
      ⟨some 4, none, .ld (.t 3)⟩,
      ⟨some 5, none, .call (.k (.fn n_spec_l1In [] [])) [.t 4, .k (.i .i64 1), .k (.i .i64 8)]⟩,
      ⟨some 6, none, .mv (.t 5)⟩,
      ⟨some 7, (some (6, true)), .fa 1 (.t 1)⟩,
      ⟨some 8, (some (6, true)), .ld (.t 7)⟩,
      ⟨some 9, (some (6, true)), .fa 0 (.t 1)⟩,
      ⟨some 10, (some (6, true)), .ld (.t 9)⟩,
      ⟨some 11, (some (6, true)), .fa 2 (.t 1)⟩,
      ⟨some 12, (some (6, true)), .ld (.t 11)⟩,
      ⟨some 13, (some (6, true)), .call (.k (.fn n_spec_l1In [] [])) [.t 8, .t 10, .t 12]⟩,
      ⟨some 14, none, .pick (.t 6) (.t 13) (.k (.b false))⟩,
      ⟨some 15, none, .mv (.t 14)⟩,
      ⟨some 16, (some (15, true)), .fa 2 (.t 1)⟩,
      ⟨some 17, (some (15, true)), .ld (.t 16)⟩,
      ⟨some 18, (some (15, true)), .call (.k (.fn n_spec_l1In [] [])) [.t 17, .k (.i .i64 1), .k (.i .i64 12)]⟩,
      ⟨some 19, none, .pick (.t 15) (.t 18) (.k (.b false))⟩,
      ⟨some 2, none, .mv (.t 19)⟩])
    (.ret))
theorem k_spec_TaskValid : chkF Try.prog Try.f67 20 c_spec_TaskValid [.t 2] = true := by kernel_rfl
theorem call_spec_TaskValid {args : List AV} {σ : List AB} {K : AV → List AB → Prop} (hn : args.length ≤ 20) (hw : wpC Try.prog σ.length 20 c_spec_TaskValid (retP σ.length [.t 2] K) ⟨initT 0 args, σ⟩) : CallWp Try.prog n_spec_TaskValid args σ K := call_fn mixed Try.func67 k_spec_TaskValid hn hw

-- loop.example/deadlinescheduler/impl.reduced
-- region 2 draws, 7 of 8 first
def c_impl_reduced : LC := .seq (.ops [⟨some 4, none, .alloc ty_impl_Fraction [.i .i64 0, .i .i64 0]⟩])
    (.seq (.ops [⟨some 6, none, .mv (.t 0)⟩,
      ⟨some 7, none, .mv (.t 1)⟩,
      ⟨some 8, none, .call (.k (.fn n_impl_gcd [] [])) [.t 6, .t 7]⟩,
      ⟨some 5, none, .mv (.t 8)⟩])
    (.seq (.draw 7 [⟨some 9, none, .mv (.t 0)⟩,
      ⟨some 10, none, .mv (.t 5)⟩,
      ⟨some 11, none, .bin .quo (.t 9) (.t 10)⟩,
      ⟨some 12, none, .mv (.t 1)⟩,
      ⟨some 13, none, .mv (.t 5)⟩,
      ⟨some 14, none, .bin .quo (.t 12) (.t 13)⟩,
      ⟨some 15, none, .build [.i .i64 0, .i .i64 0] [(0, 1, .t 11), (1, 1, .t 14)]⟩,
      ⟨none, none, .st 2 (.t 4) (.t 15)⟩])
    (.ret)))
theorem k_impl_reduced : chkF Try.prog Try.f68 16 c_impl_reduced [.c 4 (some 2)] = true := by kernel_rfl
theorem call_impl_reduced {args : List AV} {σ : List AB} {K : AV → List AB → Prop} (hn : args.length ≤ 16) (hw : wpC Try.prog σ.length 16 c_impl_reduced (retP σ.length [.c 4 (some 2)] K) ⟨initT 0 args, σ⟩) : CallWp Try.prog n_impl_reduced args σ K := call_fn mixed Try.func68 k_impl_reduced hn hw

-- loop.example/deadlinescheduler/impl.load
-- region 5 draws, 9 of 10 first
-- l0_impl_load: live at the head: 3 4 9 10 11
def l0_impl_load : LC := .seq (.ops [⟨some 12, none, .bin .lss (.t 11) (.t 10)⟩])
    (.seq (.cond (.t 12) (.skip)
    (.exit 0))
    (.seq (.block 1 (.seq (.ops [⟨some 13, none, .ia 3 (.t 9) (.t 11)⟩,
      ⟨some 14, none, .ldn 3 (.t 13)⟩,
      ⟨some 6, none, .alloc ty_impl_Task [.i .i64 0, .i .i64 0, .i .i64 0]⟩,
      ⟨none, none, .st 3 (.t 6) (.t 14)⟩])
    (.draw 9 [⟨some 15, none, .mv (.t 4)⟩,
      ⟨some 16, none, .mv (.t 3)⟩,
      ⟨some 17, none, .fa 2 (.t 6)⟩,
      ⟨some 18, none, .ld (.t 17)⟩,
      ⟨some 19, none, .bin .quo (.t 16) (.t 18)⟩,
      ⟨some 20, none, .fa 0 (.t 6)⟩,
      ⟨some 21, none, .ld (.t 20)⟩,
      ⟨some 22, none, .bin .mul (.t 19) (.t 21)⟩,
      ⟨some 23, none, .bin .add (.t 15) (.t 22)⟩,
      ⟨some 4, none, .mv (.t 23)⟩])))
    (.ops [⟨some 24, none, .bin .add (.t 11) (.k (.i .i64 1))⟩,
      ⟨some 11, none, .mv (.t 24)⟩])))
def c_impl_load : LC := .seq (.ops [⟨some 2, none, .mv (.k (.i .i64 0))⟩])
    (.seq (.ops [⟨some 7, none, .mv (.t 0)⟩,
      ⟨some 8, none, .call (.k (.fn n_impl_hyper [] [])) [.t 7]⟩,
      ⟨some 3, none, .mv (.t 8)⟩,
      ⟨some 4, none, .mv (.k (.i .i64 0))⟩])
    (.seq (.seq (.ops [⟨some 9, none, .mv (.t 0)⟩,
      ⟨some 10, none, .len (.t 9)⟩,
      ⟨some 11, none, .mv (.k (.i .i64 0))⟩])
    (.block 0 (.loop l0_impl_load)))
    (.seq (.ops [⟨some 25, none, .mv (.t 4)⟩,
      ⟨some 2, none, .mv (.t 25)⟩])
    (.ret))))
theorem k_impl_load : chkF Try.prog Try.f69 26 c_impl_load [.t 2] = true := by kernel_rfl
theorem call_impl_load {args : List AV} {σ : List AB} {K : AV → List AB → Prop} (hn : args.length ≤ 26) (hw : wpC Try.prog σ.length 26 c_impl_load (retP σ.length [.t 2] K) ⟨initT 0 args, σ⟩) : CallWp Try.prog n_impl_load args σ K := call_fn mixed Try.func69 k_impl_load hn hw

-- loop.example/deadlinescheduler/impl.search
-- l0_impl_search: live at the head: 0 1 2 3 4 19 20 33 34 35 36 37 38 39 40 41 42
def l0_impl_search : LC := .seq (.ops [⟨some 21, none, .bin .lss (.t 20) (.t 19)⟩])
    (.seq (.cond (.t 21) (.skip)
    (.exit 0))
    (.seq (.block 1 (.seq (.ops [⟨some 22, none, .mv (.t 20)⟩,
      ⟨some 11, none, .mv (.t 22)⟩])
    (.seq (.ops [⟨some 23, none, .mv (.t 2)⟩,
      ⟨some 24, none, .mv (.t 3)⟩,
      ⟨some 25, none, .mv (.t 11)⟩,
      ⟨some 26, none, .ia 1 (.t 23) (.t 24)⟩,
      ⟨none, none, .st 1 (.t 26) (.t 25)⟩])
    (.seq (.ops [⟨some 27, none, .mv (.t 0)⟩,
      ⟨some 28, none, .mv (.t 2)⟩,
      ⟨some 29, none, .mv (.t 11)⟩,
      ⟨some 30, none, .call (.k (.fn n_impl_onCore [] [])) [.t 27, .t 28, .t 29]⟩,
      ⟨some 31, none, .call (.k (.fn n_impl_feasible [] [])) [.t 30]⟩,
      ⟨some 32, none, .mv (.t 31)⟩,
      ⟨some 33, (some (32, true)), .mv (.t 0)⟩,
      ⟨some 34, (some (32, true)), .mv (.t 1)⟩,
      ⟨some 35, (some (32, true)), .mv (.t 2)⟩,
      ⟨some 36, (some (32, true)), .mv (.t 3)⟩,
      ⟨some 37, (some (32, true)), .bin .add (.t 36) (.k (.i .i64 1))⟩,
      ⟨some 38, (some (32, true)), .mv (.t 4)⟩,
      ⟨some 39, (some (32, true)), .mv (.t 11)⟩,
      ⟨some 40, (some (32, true)), .bin .add (.t 39) (.k (.i .i64 1))⟩,
      ⟨some 41, (some (32, true)), .mx (.t 38) (.t 40)⟩,
      ⟨some 42, (some (32, true)), .call (.k (.fn n_impl_search [] [])) [.t 33, .t 34, .t 35, .t 37, .t 41]⟩,
      ⟨some 43, none, .pick (.t 32) (.t 42) (.k (.b false))⟩])
    (.cond (.t 43) (.seq (.ops [⟨some 10, none, .mv (.k (.b true))⟩])
    (.ret))
    (.skip))))))
    (.ops [⟨some 44, none, .bin .add (.t 20) (.k (.i .i64 1))⟩,
      ⟨some 20, none, .mv (.t 44)⟩])))
def c_impl_search : LC := .seq (.ops [⟨some 10, none, .mv (.k (.b false))⟩])
    (.seq (.seq (.ops [⟨some 12, none, .mv (.t 3)⟩,
      ⟨some 13, none, .mv (.t 0)⟩,
      ⟨some 14, none, .len (.t 13)⟩,
      ⟨some 15, none, .bin .eql (.t 12) (.t 14)⟩])
    (.cond (.t 15) (.seq (.ops [⟨some 10, none, .mv (.k (.b true))⟩])
    (.ret))
    (.skip)))
    (.seq (.seq (.ops [⟨some 16, none, .mv (.t 1)⟩,
      ⟨some 17, none, .mv (.t 4)⟩,
      ⟨some 18, none, .bin .add (.t 17) (.k (.i .i64 1))⟩,
      ⟨some 19, none, .mn (.t 16) (.t 18)⟩,
      ⟨some 20, none, .mv (.k (.i .i64 0))⟩])
    (.block 0 (.loop l0_impl_search)))
    (.seq (.ops [⟨some 45, none, .mv (.t 2)⟩,
      ⟨some 46, none, .mv (.t 3)⟩,
      ⟨some 47, none, .ia 1 (.t 45) (.t 46)⟩,
      ⟨none, none, .st 1 (.t 47) (.k (.i .i64 (-1)))⟩])
    (.seq (.ops [⟨some 10, none, .mv (.k (.b false))⟩])
    (.ret)))))
theorem k_impl_search : chkF Try.prog Try.f70 48 c_impl_search [.t 10] = true := by kernel_rfl
theorem call_impl_search {args : List AV} {σ : List AB} {K : AV → List AB → Prop} (hn : args.length ≤ 48) (hw : wpC Try.prog σ.length 48 c_impl_search (retP σ.length [.t 10] K) ⟨initT 0 args, σ⟩) : CallWp Try.prog n_impl_search args σ K := call_fn mixed Try.func70 k_impl_search hn hw

-- slices.ContainsFunc[[]loop.example/deadlinescheduler/impl.Task,loop.example/deadlinescheduler/impl.Task]
def c_slices_ContainsFunc_impl_Task : LC := .seq (.ops [⟨some 4, none, .mv (.k (.b false))⟩])
    (.seq (.ops [⟨some 5, none, .mv (.t 0)⟩,
      ⟨some 6, none, .mv (.t 1)⟩,
      ⟨some 7, none, .call (.k (.fn n_slices_IndexFunc_impl_Task [] [])) [.t 5, .t 6]⟩,
      ⟨some 8, none, .bin .geq (.t 7) (.k (.i .i64 0))⟩,
      ⟨some 4, none, .mv (.t 8)⟩])
    (.ret))
theorem k_slices_ContainsFunc_impl_Task : chkF Try.prog Try.f71 9 c_slices_ContainsFunc_impl_Task [.t 4] = true := by kernel_rfl
theorem call_slices_ContainsFunc_impl_Task {args : List AV} {σ : List AB} {K : AV → List AB → Prop} (hn : args.length ≤ 9) (hw : wpC Try.prog σ.length 9 c_slices_ContainsFunc_impl_Task (retP σ.length [.t 4] K) ⟨initT 0 args, σ⟩) : CallWp Try.prog n_slices_ContainsFunc_impl_Task args σ K := call_fn mixed Try.func71 k_slices_ContainsFunc_impl_Task hn hw

-- loop.example/deadlinescheduler/impl.SetValid$1
def c_impl_SetValid_1 : LC := .seq (.ops [⟨some 1, none, .box ty_impl_Task (.t 0)⟩,
      ⟨some 2, none, .mv (.k (.b false))⟩])
    (.seq (.ops [⟨some 3, none, .ldn 3 (.t 1)⟩,
      ⟨some 4, none, .call (.k (.fn n_impl_TaskValid [] [])) [.t 3]⟩,
      ⟨some 5, none, .not (.t 4)⟩,
      ⟨some 2, none, .mv (.t 5)⟩])
    (.ret))
theorem k_impl_SetValid_1 : chkF Try.prog Try.f72 6 c_impl_SetValid_1 [.t 2] = true := by kernel_rfl
theorem call_impl_SetValid_1 {args : List AV} {σ : List AB} {K : AV → List AB → Prop} (hn : args.length ≤ 6) (hw : wpC Try.prog σ.length 6 c_impl_SetValid_1 (retP σ.length [.t 2] K) ⟨initT 0 args, σ⟩) : CallWp Try.prog n_impl_SetValid_1 args σ K := call_fn mixed Try.func72 k_impl_SetValid_1 hn hw

-- loop.example/deadlinescheduler/impl.missed
-- region 7 draws, 19 of 19 first
-- l0_impl_missed: live at the head: 1 5 13 14 15 24 25 26 27 28 29 30 31 32 33 34 35 36 37
def l0_impl_missed : LC := .seq (.ops [⟨some 16, none, .bin .lss (.t 15) (.t 14)⟩])
    (.seq (.cond (.t 16) (.skip)
    (.exit 0))
    (.seq (.block 1 (.seq (.ops [⟨some 17, none, .mv (.t 15)⟩,
      ⟨some 18, none, .ia 4 (.t 13) (.t 15)⟩,
      ⟨some 19, none, .ldn 4 (.t 18)⟩,
      ⟨some 7, none, .alloc ty_impl_Job [.i .i64 0, .i .i64 0, .i .i64 0, .i .i64 0]⟩,
      ⟨some 6, none, .mv (.t 17)⟩,
      ⟨none, none, .st 4 (.t 7) (.t 19)⟩])
    (.seq (.draw 19 [⟨some 20, none, .fa 2 (.t 7)⟩,
      ⟨some 21, none, .ld (.t 20)⟩,
      ⟨some 22, none, .bin .leq (.t 21) (.k (.i .i64 120))⟩,
      ⟨some 23, none, .mv (.t 22)⟩,
      ⟨some 24, (some (23, true)), .mv (.t 1)⟩,
      ⟨some 25, (some (23, true)), .mv (.t 6)⟩,
      ⟨some 26, (some (23, true)), .ia 1 (.t 24) (.t 25)⟩,
      ⟨some 27, (some (23, true)), .ld (.t 26)⟩,
      ⟨some 28, (some (23, true)), .bin .lss (.t 27) (.k (.i .i64 0))⟩,
      ⟨some 29, (some (23, true)), .mv (.t 28)⟩,
      ⟨some 30, (some (29, false)), .mv (.t 1)⟩,
      ⟨some 31, (some (29, false)), .mv (.t 6)⟩,
      ⟨some 32, (some (29, false)), .ia 1 (.t 30) (.t 31)⟩,
      ⟨some 33, (some (29, false)), .ld (.t 32)⟩,
      ⟨some 34, (some (29, false)), .fa 2 (.t 7)⟩,
      ⟨some 35, (some (29, false)), .ld (.t 34)⟩,
      ⟨some 36, (some (29, false)), .bin .gtr (.t 33) (.t 35)⟩,
      ⟨some 37, (some (23, true)), .pick (.t 29) (.k (.b true)) (.t 36)⟩,
      ⟨some 38, none, .pick (.t 23) (.t 37) (.k (.b false))⟩])
    (.cond (.t 38) (.ops [⟨some 39, none, .mv (.t 5)⟩,
      ⟨some 40, none, .mv (.t 6)⟩,
      ⟨some 41, none, .bsl ty_int [.i .i64 0] 1 [(0, 1, .t 40)]⟩,
      ⟨some 42, none, .app ty_int 1 8 (.t 39) (.t 41)⟩,
      ⟨some 5, none, .mv (.t 42)⟩])
    (.skip)))))
    (.ops [⟨some 43, none, .bin .add (.t 15) (.k (.i .i64 1))⟩,
      ⟨some 15, none, .mv (.t 43)⟩])))
def c_impl_missed : LC := .seq (.ops [⟨some 4, none, .mv (.k (.sn))⟩])
    (.seq (.seq (.ops [⟨some 8, none, .mv (.t 1)⟩,
      ⟨some 9, none, .len (.t 8)⟩,
      ⟨some 10, none, .mv (.t 0)⟩,
      ⟨some 11, none, .len (.t 10)⟩,
      ⟨some 12, none, .bin .neq (.t 9) (.t 11)⟩])
    (.cond (.t 12) (.seq (.ops [⟨some 4, none, .mv (.k (.sn))⟩])
    (.ret))
    (.skip)))
    (.seq (.ops [⟨some 5, none, .mv (.k (.sn))⟩])
    (.seq (.seq (.ops [⟨some 13, none, .mv (.t 0)⟩,
      ⟨some 14, none, .len (.t 13)⟩,
      ⟨some 15, none, .mv (.k (.i .i64 0))⟩])
    (.block 0 (.loop l0_impl_missed)))
    (.seq (.ops [⟨some 44, none, .mv (.t 5)⟩,
      ⟨some 45, none, .call (.k (.fn n_slices_Clip_int [] [])) [.t 44]⟩,
      ⟨some 4, none, .mv (.t 45)⟩])
    (.ret)))))
theorem k_impl_missed : chkF Try.prog Try.f73 46 c_impl_missed [.t 4] = true := by kernel_rfl
theorem call_impl_missed {args : List AV} {σ : List AB} {K : AV → List AB → Prop} (hn : args.length ≤ 46) (hw : wpC Try.prog σ.length 46 c_impl_missed (retP σ.length [.t 4] K) ⟨initT 0 args, σ⟩) : CallWp Try.prog n_impl_missed args σ K := call_fn mixed Try.func73 k_impl_missed hn hw

-- loop.example/deadlinescheduler/spec.l20Prog
-- a cut
-- l2_spec_l20Prog: live at the head: 0 1 5 6
-- l1_spec_l20Prog: live at the head: 0 1 5
-- l0_spec_l20Prog: live at the head: 5
def l0_spec_l20Prog : LC := .seq (.seq (.ops [⟨some 86, none, .mv (.t 5)⟩,
      ⟨some 87, none, .len (.t 86)⟩,
      ⟨some 88, none, .bin .lss (.t 87) (.k (.i .i64 12))⟩])
    (.cond (.t 88) (.skip)
    (.exit 6)))
    (.block 7 (.ops [⟨some 89, none, .mv (.t 5)⟩,
      ⟨some 90, none, .mv (.t 5)⟩,
      ⟨some 91, none, .len (.t 90)⟩,
      ⟨some 92, none, .bin .sub (.t 91) (.k (.i .i64 1))⟩,
      ⟨some 93, none, .build [.i .i64 0, .i .i64 0, .i .i64 0, .i .i64 0, .i .i64 0] [(0, 1, .k (.i .i64 4)), (1, 1, .k (.i .i64 1)), (2, 1, .t 92), (4, 1, .k (.i .i64 4))]⟩,
      ⟨some 94, none, .bsl ty_impl_Node [.i .i64 0, .i .i64 0, .i .i64 0, .i .i64 0, .i .i64 0] 1 [(0, 5, .t 93)]⟩,
      ⟨some 95, none, .app ty_impl_Node 5 40 (.t 89) (.t 94)⟩,
      ⟨some 5, none, .mv (.t 95)⟩]))
def l1_spec_l20Prog : LC := .seq (.seq (.ops [⟨some 73, none, .mv (.t 5)⟩,
      ⟨some 74, none, .call (.k (.fn n_spec_ProgramValid [] [])) [.t 73]⟩,
      ⟨some 75, none, .not (.t 74)⟩])
    (.cond (.t 75) (.skip)
    (.exit 3)))
    (.block 4 (.ops [⟨some 76, none, .mv (.t 5)⟩,
      ⟨some 77, none, .mv (.t 5)⟩,
      ⟨some 78, none, .len (.t 77)⟩,
      ⟨some 79, none, .bin .sub (.t 78) (.k (.i .i64 1))⟩,
      ⟨some 80, none, .slc 5 (.t 76) none (some (.t 79)) none⟩,
      ⟨some 5, none, .mv (.t 80)⟩]))
def l2_spec_l20Prog : LC := .seq (.seq (.ops [⟨some 16, none, .mv (.t 6)⟩,
      ⟨some 17, none, .bin .gtr (.t 16) (.k (.i .i64 0))⟩])
    (.cond (.t 17) (.skip)
    (.exit 0)))
    (.seq (.block 1 (.seq (.ops [⟨some 20, none, .mv (.t 5)⟩,
      ⟨some 21, none, .len (.t 20)⟩,
      ⟨some 7, none, .mv (.t 21)⟩])
    (.seq (.ops [⟨some 22, none, .mv (.t 0)⟩,
      ⟨some 23, none, .call (.k (.fn n_spec_l20Rd_pick [] [])) [.t 22, .k (.i .i64 4)]⟩,
      ⟨some 24, none, .bin .add (.k (.i .i64 1)) (.t 23)⟩,
      ⟨some 25, none, .build [.i .i64 0, .i .i64 0, .i .i64 0, .i .i64 0, .i .i64 0] [(0, 1, .t 24)]⟩,
      ⟨some 8, none, .alloc ty_impl_Node [.i .i64 0, .i .i64 0, .i .i64 0, .i .i64 0, .i .i64 0]⟩,
      ⟨none, none, .st 5 (.t 8) (.t 25)⟩])
    (.seq (.seq (.ops [⟨some 26, none, .fa 0 (.t 8)⟩,
      ⟨some 27, none, .ld (.t 26)⟩])
    (.block 2 (.seq (.ops [⟨some 40, none, .bin .eql (.t 27) (.k (.i .i64 1))⟩,
      ⟨some 39, none, .mv (.t 40)⟩])
    (.cond (.t 39) (.ops [⟨some 41, none, .mv (.t 0)⟩,
      ⟨some 42, none, .call (.k (.fn n_spec_l20Rd_pick [] [])) [.t 41, .k (.i .i64 9)]⟩,
      ⟨some 43, none, .bin .add (.k (.i .i64 1)) (.t 42)⟩,
      ⟨some 44, none, .fa 1 (.t 8)⟩,
      ⟨none, none, .st 1 (.t 44) (.t 43)⟩])
    (.seq (.ops [⟨some 46, none, .bin .eql (.t 27) (.k (.i .i64 2))⟩,
      ⟨some 45, none, .mv (.t 46)⟩])
    (.cond (.t 45) (.seq (.ops [⟨some 47, none, .mv (.t 0)⟩,
      ⟨some 48, none, .mv (.t 7)⟩,
      ⟨some 49, none, .call (.k (.fn n_spec_l20Rd_pick [] [])) [.t 47, .t 48]⟩,
      ⟨some 50, none, .fa 2 (.t 8)⟩,
      ⟨none, none, .st 1 (.t 50) (.t 49)⟩])
    (.ops [⟨some 51, none, .mv (.t 0)⟩,
      ⟨some 52, none, .mv (.t 7)⟩,
      ⟨some 53, none, .call (.k (.fn n_spec_l20Rd_pick [] [])) [.t 51, .t 52]⟩,
      ⟨some 54, none, .fa 3 (.t 8)⟩,
      ⟨none, none, .st 1 (.t 54) (.t 53)⟩]))
    (.seq (.ops [⟨some 56, none, .bin .eql (.t 27) (.k (.i .i64 3))⟩,
      ⟨some 55, none, .mv (.t 56)⟩])
    (.cond (.t 55) (.seq (.ops [⟨some 57, none, .mv (.t 0)⟩,
      ⟨some 58, none, .call (.k (.fn n_spec_l20Rd_pick [] [])) [.t 57, .k (.i .i64 3)]⟩,
      ⟨some 59, none, .bin .add (.k (.i .i64 1)) (.t 58)⟩,
      ⟨some 60, none, .fa 1 (.t 8)⟩,
      ⟨none, none, .st 1 (.t 60) (.t 59)⟩])
    (.seq (.ops [⟨some 61, none, .mv (.t 0)⟩,
      ⟨some 62, none, .mv (.t 7)⟩,
      ⟨some 63, none, .call (.k (.fn n_spec_l20Rd_pick [] [])) [.t 61, .t 62]⟩,
      ⟨some 64, none, .fa 2 (.t 8)⟩,
      ⟨none, none, .st 1 (.t 64) (.t 63)⟩])
    (.ops [⟨some 65, none, .mv (.t 0)⟩,
      ⟨some 66, none, .mv (.t 7)⟩,
      ⟨some 67, none, .call (.k (.fn n_spec_l20Rd_pick [] [])) [.t 65, .t 66]⟩,
      ⟨some 68, none, .fa 3 (.t 8)⟩,
      ⟨none, none, .st 1 (.t 68) (.t 67)⟩])))
    (.seq (.ops [⟨some 28, none, .mv (.t 0)⟩,
      ⟨some 29, none, .call (.k (.fn n_spec_l20Rd_pick [] [])) [.t 28, .k (.i .i64 2)]⟩,
      ⟨some 30, none, .bin .add (.k (.i .i64 1)) (.t 29)⟩,
      ⟨some 31, none, .fa 1 (.t 8)⟩,
      ⟨none, none, .st 1 (.t 31) (.t 30)⟩])
    (.seq (.ops [⟨some 32, none, .mv (.t 0)⟩,
      ⟨some 33, none, .mv (.t 7)⟩,
      ⟨some 34, none, .call (.k (.fn n_spec_l20Rd_pick [] [])) [.t 32, .t 33]⟩,
      ⟨some 35, none, .fa 2 (.t 8)⟩,
      ⟨none, none, .st 1 (.t 35) (.t 34)⟩])
    (.ops [⟨some 36, none, .mv (.t 0)⟩,
      ⟨some 37, none, .call (.k (.fn n_spec_l20Rd_pick [] [])) [.t 36, .k (.i .i64 4)]⟩,
      ⟨some 38, none, .fa 4 (.t 8)⟩,
      ⟨none, none, .st 1 (.t 38) (.t 37)⟩])))))))))))
    (.ops [⟨some 69, none, .mv (.t 5)⟩,
      ⟨some 70, none, .ldn 5 (.t 8)⟩,
      ⟨some 71, none, .bsl ty_impl_Node [.i .i64 0, .i .i64 0, .i .i64 0, .i .i64 0, .i .i64 0] 1 [(0, 5, .t 70)]⟩,
      ⟨some 72, none, .app ty_impl_Node 5 40 (.t 69) (.t 71)⟩,
      ⟨some 5, none, .mv (.t 72)⟩])))))
    (.ops [⟨some 18, none, .mv (.t 6)⟩,
      ⟨some 19, none, .bin .sub (.t 18) (.k (.i .i64 1))⟩,
      ⟨some 6, none, .mv (.t 19)⟩]))
def c_spec_l20Prog : LC := .seq (.ops [⟨some 4, none, .mv (.k (.sn))⟩])
    (.seq (.ops [⟨some 9, none, .mv (.t 0)⟩,
      ⟨some 10, none, .call (.k (.fn n_spec_l20Rd_pick [] [])) [.t 9, .k (.i .i64 9)]⟩,
      ⟨some 11, none, .bin .add (.k (.i .i64 1)) (.t 10)⟩,
      ⟨some 12, none, .build [.i .i64 0, .i .i64 0, .i .i64 0, .i .i64 0, .i .i64 0] [(0, 1, .k (.i .i64 1)), (1, 1, .t 11)]⟩,
      ⟨some 13, none, .bsl ty_impl_Node [.i .i64 0, .i .i64 0, .i .i64 0, .i .i64 0, .i .i64 0] 1 [(0, 5, .t 12)]⟩,
      ⟨some 5, none, .mv (.t 13)⟩])
    (.seq (.seq (.ops [⟨some 14, none, .mv (.t 0)⟩,
      ⟨some 15, none, .call (.k (.fn n_spec_l20Rd_pick [] [])) [.t 14, .k (.i .i64 12)]⟩,
      ⟨some 6, none, .mv (.t 15)⟩])
    (.block 0 (.loop l2_spec_l20Prog)))
    (.seq (.block 3 (.loop l1_spec_l20Prog))
    (.join (.seq (.ops [⟨some 81, none, .mv (.t 0)⟩,
      ⟨some 82, none, .mv (.t 1)⟩,
      ⟨some 83, none, .call (.k (.fn n_spec_l20Rd_odd [] [])) [.t 81, .t 82]⟩])
    (.cond (.t 83) (.seq (.ops [⟨some 84, none, .mv (.t 0)⟩,
      ⟨some 85, none, .call (.k (.fn n_spec_l20Rd_pick [] [])) [.t 84, .k (.i .i64 5)]⟩])
    (.block 5 (.seq (.ops [⟨some 97, none, .bin .eql (.t 85) (.k (.i .i64 0))⟩,
      ⟨some 96, none, .mv (.t 97)⟩])
    (.cond (.t 96) (.seq (.ops [⟨some 98, none, .bsl ty_impl_Node [.i .i64 0, .i .i64 0, .i .i64 0, .i .i64 0, .i .i64 0] 0 []⟩,
      ⟨some 4, none, .mv (.t 98)⟩])
    (.ret))
    (.seq (.ops [⟨some 100, none, .bin .eql (.t 85) (.k (.i .i64 1))⟩,
      ⟨some 99, none, .mv (.t 100)⟩])
    (.cond (.t 99) (.ops [⟨some 101, none, .mv (.t 5)⟩,
      ⟨some 102, none, .mv (.t 5)⟩,
      ⟨some 103, none, .len (.t 102)⟩,
      ⟨some 104, none, .build [.i .i64 0, .i .i64 0, .i .i64 0, .i .i64 0, .i .i64 0] [(0, 1, .k (.i .i64 2)), (2, 1, .t 103), (3, 1, .k (.i .i64 0))]⟩,
      ⟨some 105, none, .bsl ty_impl_Node [.i .i64 0, .i .i64 0, .i .i64 0, .i .i64 0, .i .i64 0] 1 [(0, 5, .t 104)]⟩,
      ⟨some 106, none, .app ty_impl_Node 5 40 (.t 101) (.t 105)⟩,
      ⟨some 5, none, .mv (.t 106)⟩])
    (.seq (.ops [⟨some 108, none, .bin .eql (.t 85) (.k (.i .i64 2))⟩,
      ⟨some 107, none, .mv (.t 108)⟩])
    (.cond (.t 107) (.ops [⟨some 109, none, .mv (.t 5)⟩,
      ⟨some 110, none, .mv (.t 0)⟩,
      ⟨some 111, none, .mv (.t 5)⟩,
      ⟨some 112, none, .len (.t 111)⟩,
      ⟨some 113, none, .call (.k (.fn n_spec_l20Rd_pick [] [])) [.t 110, .t 112]⟩,
      ⟨some 114, none, .bsl ty_int [.i .i64 0] 2 [(0, 1, .k (.i .i64 0)), (1, 1, .k (.i .i64 5))]⟩,
      ⟨some 115, none, .mv (.t 0)⟩,
      ⟨some 116, none, .call (.k (.fn n_spec_l20Rd_pick [] [])) [.t 115, .k (.i .i64 2)]⟩,
      ⟨some 117, none, .ia 1 (.t 114) (.t 116)⟩,
      ⟨some 118, none, .ld (.t 117)⟩,
      ⟨some 119, none, .ia 5 (.t 109) (.t 113)⟩,
      ⟨some 120, none, .fa 0 (.t 119)⟩,
      ⟨none, none, .st 1 (.t 120) (.t 118)⟩])
    (.seq (.ops [⟨some 122, none, .bin .eql (.t 85) (.k (.i .i64 3))⟩,
      ⟨some 121, none, .mv (.t 122)⟩])
    (.cond (.t 121) (.ops [⟨some 123, none, .mv (.t 5)⟩,
      ⟨some 124, none, .mv (.t 0)⟩,
      ⟨some 125, none, .mv (.t 5)⟩,
      ⟨some 126, none, .len (.t 125)⟩,
      ⟨some 127, none, .call (.k (.fn n_spec_l20Rd_pick [] [])) [.t 124, .t 126]⟩,
      ⟨some 128, none, .bsl ty_int [.i .i64 0] 3 [(0, 1, .k (.i .i64 (-1))), (1, 1, .k (.i .i64 10)), (2, 1, .k (.i .i64 0))]⟩,
      ⟨some 129, none, .mv (.t 0)⟩,
      ⟨some 130, none, .call (.k (.fn n_spec_l20Rd_pick [] [])) [.t 129, .k (.i .i64 3)]⟩,
      ⟨some 131, none, .ia 1 (.t 128) (.t 130)⟩,
      ⟨some 132, none, .ld (.t 131)⟩,
      ⟨some 133, none, .ia 5 (.t 123) (.t 127)⟩,
      ⟨some 134, none, .fa 1 (.t 133)⟩,
      ⟨none, none, .st 1 (.t 134) (.t 132)⟩])
    (.block 6 (.loop l0_spec_l20Prog))))))))))))
    (.skip)))
    (.seq (.ops [⟨some 135, none, .mv (.t 5)⟩,
      ⟨some 4, none, .mv (.t 135)⟩])
    (.ret))))))
theorem k_spec_l20Prog : chkF Try.prog Try.f74 136 c_spec_l20Prog [.t 4] = true := by kernel_rfl
theorem call_spec_l20Prog {args : List AV} {σ : List AB} {K : AV → List AB → Prop} (hn : args.length ≤ 136) (hw : wpC Try.prog σ.length 136 c_spec_l20Prog (retP σ.length [.t 4] K) ⟨initT 0 args, σ⟩) : CallWp Try.prog n_spec_l20Prog args σ K := call_fn mixed Try.func74 k_spec_l20Prog hn hw

-- loop.example/deadlinescheduler/impl.ProgramValid
-- l0_impl_ProgramValid: live at the head: 0 9 10 11
def l0_impl_ProgramValid : LC := .seq (.ops [⟨some 12, none, .bin .lss (.t 11) (.t 10)⟩])
    (.seq (.cond (.t 12) (.skip)
    (.exit 0))
    (.seq (.block 1 (.seq (.ops [⟨some 13, none, .mv (.t 11)⟩,
      ⟨some 14, none, .ia 5 (.t 9) (.t 11)⟩,
      ⟨some 15, none, .ldn 5 (.t 14)⟩,
      ⟨some 4, none, .alloc ty_impl_Node [.i .i64 0, .i .i64 0, .i .i64 0, .i .i64 0, .i .i64 0]⟩,
      ⟨some 3, none, .mv (.t 13)⟩,
      ⟨none, none, .st 5 (.t 4) (.t 15)⟩])
    (.seq (.ops [⟨some 16, none, .ldn 5 (.t 4)⟩,
      ⟨some 17, none, .mv (.t 3)⟩,
      ⟨some 18, none, .call (.k (.fn n_impl_nodeValid [] [])) [.t 16, .t 17]⟩,
      ⟨some 19, none, .not (.t 18)⟩])
    (.cond (.t 19) (.seq (.ops [⟨some 2, none, .mv (.k (.b false))⟩])
    (.ret))
    (.skip)))))
    (.ops [⟨some 20, none, .bin .add (.t 11) (.k (.i .i64 1))⟩,
      ⟨some 11, none, .mv (.t 20)⟩])))
def c_impl_ProgramValid : LC := .seq (.ops [⟨some 2, none, .mv (.k (.b false))⟩])
    (.seq (.seq (.ops [⟨some 5, none, .mv (.t 0)⟩,
      ⟨some 6, none, .len (.t 5)⟩,
      ⟨some 7, none, .call (.k (.fn n_impl_in [] [])) [.t 6, .k (.i .i64 1), .k (.i .i64 12)]⟩,
      ⟨some 8, none, .not (.t 7)⟩])
    (.cond (.t 8) (.seq (.ops [⟨some 2, none, .mv (.k (.b false))⟩])
    (.ret))
    (.skip)))
    (.seq (.seq (.ops [⟨some 9, none, .mv (.t 0)⟩,
      ⟨some 10, none, .len (.t 9)⟩,
      ⟨some 11, none, .mv (.k (.i .i64 0))⟩])
    (.block 0 (.loop l0_impl_ProgramValid)))
    (.seq (.ops [⟨some 21, none, .mv (.t 0)⟩,
      ⟨some 22, none, .call (.k (.fn n_impl_worst [] [])) [.t 21]⟩,
      ⟨some 23, none, .mv (.t 0)⟩,
      ⟨some 24, none, .len (.t 23)⟩,
      ⟨some 25, none, .bin .sub (.t 24) (.k (.i .i64 1))⟩,
      ⟨some 26, none, .ia 1 (.t 22) (.t 25)⟩,
      ⟨some 27, none, .ld (.t 26)⟩,
      ⟨some 28, none, .bin .leq (.t 27) (.k (.i .i64 600))⟩,
      ⟨some 2, none, .mv (.t 28)⟩])
    (.ret))))
theorem k_impl_ProgramValid : chkF Try.prog Try.f75 29 c_impl_ProgramValid [.t 2] = true := by kernel_rfl
theorem call_impl_ProgramValid {args : List AV} {σ : List AB} {K : AV → List AB → Prop} (hn : args.length ≤ 29) (hw : wpC Try.prog σ.length 29 c_impl_ProgramValid (retP σ.length [.t 2] K) ⟨initT 0 args, σ⟩) : CallWp Try.prog n_impl_ProgramValid args σ K := call_fn mixed Try.func75 k_impl_ProgramValid hn hw

-- loop.example/deadlinescheduler/impl.worst
-- region 9 draws, 13 of 15 first
-- region 11 draws, 16 of 18 first
-- region 13 draws, 16 of 18 first
-- l0_impl_worst: live at the head: 3 9 10 11
def l0_impl_worst : LC := .seq (.ops [⟨some 12, none, .bin .lss (.t 11) (.t 10)⟩])
    (.seq (.cond (.t 12) (.skip)
    (.exit 0))
    (.seq (.block 1 (.seq (.ops [⟨some 13, none, .mv (.t 11)⟩,
      ⟨some 14, none, .ia 5 (.t 9) (.t 11)⟩,
      ⟨some 15, none, .ldn 5 (.t 14)⟩,
      ⟨some 5, none, .alloc ty_impl_Node [.i .i64 0, .i .i64 0, .i .i64 0, .i .i64 0, .i .i64 0]⟩,
      ⟨some 4, none, .mv (.t 13)⟩,
      ⟨none, none, .st 5 (.t 5) (.t 15)⟩])
    (.seq (.ops [⟨some 16, none, .fa 0 (.t 5)⟩,
      ⟨some 17, none, .ld (.t 16)⟩])
    (.block 2 (.seq (.ops [⟨some 19, none, .bin .eql (.t 17) (.k (.i .i64 1))⟩,
      ⟨some 18, none, .mv (.t 19)⟩])
    (.cond (.t 18) (.ops [⟨some 20, none, .mv (.t 3)⟩,
      ⟨some 21, none, .mv (.t 4)⟩,
      ⟨some 22, none, .fa 1 (.t 5)⟩,
      ⟨some 23, none, .ld (.t 22)⟩,
      ⟨some 24, none, .ia 1 (.t 20) (.t 21)⟩,
      ⟨none, none, .st 1 (.t 24) (.t 23)⟩])
    (.seq (.ops [⟨some 26, none, .bin .eql (.t 17) (.k (.i .i64 2))⟩,
      ⟨some 25, none, .mv (.t 26)⟩])
    (.cond (.t 25) (.draw 13 [⟨some 27, none, .mv (.t 3)⟩,
      ⟨some 28, none, .mv (.t 4)⟩,
      ⟨some 29, none, .mv (.t 3)⟩,
      ⟨some 30, none, .fa 2 (.t 5)⟩,
      ⟨some 31, none, .ld (.t 30)⟩,
      ⟨some 32, none, .ia 1 (.t 29) (.t 31)⟩,
      ⟨some 33, none, .ld (.t 32)⟩,
      ⟨some 34, none, .mv (.t 3)⟩,
      ⟨some 35, none, .fa 3 (.t 5)⟩,
      ⟨some 36, none, .ld (.t 35)⟩,
      ⟨some 37, none, .ia 1 (.t 34) (.t 36)⟩,
      ⟨some 38, none, .ld (.t 37)⟩,
      ⟨some 39, none, .bin .add (.t 33) (.t 38)⟩,
      ⟨some 40, none, .ia 1 (.t 27) (.t 28)⟩,
      ⟨none, none, .st 1 (.t 40) (.t 39)⟩])
    (.seq (.ops [⟨some 42, none, .bin .eql (.t 17) (.k (.i .i64 3))⟩,
      ⟨some 41, none, .mv (.t 42)⟩])
    (.cond (.t 41) (.draw 16 [⟨some 43, none, .mv (.t 3)⟩,
      ⟨some 44, none, .mv (.t 4)⟩,
      ⟨some 45, none, .fa 1 (.t 5)⟩,
      ⟨some 46, none, .ld (.t 45)⟩,
      ⟨some 47, none, .mv (.t 3)⟩,
      ⟨some 48, none, .fa 2 (.t 5)⟩,
      ⟨some 49, none, .ld (.t 48)⟩,
      ⟨some 50, none, .ia 1 (.t 47) (.t 49)⟩,
      ⟨some 51, none, .ld (.t 50)⟩,
      ⟨some 52, none, .mv (.t 3)⟩,
      ⟨some 53, none, .fa 3 (.t 5)⟩,
      ⟨some 54, none, .ld (.t 53)⟩,
      ⟨some 55, none, .ia 1 (.t 52) (.t 54)⟩,
      ⟨some 56, none, .ld (.t 55)⟩,
      ⟨some 57, none, .mx (.t 51) (.t 56)⟩,
      ⟨some 58, none, .bin .add (.t 46) (.t 57)⟩,
      ⟨some 59, none, .ia 1 (.t 43) (.t 44)⟩,
      ⟨none, none, .st 1 (.t 59) (.t 58)⟩])
    (.seq (.ops [⟨some 61, none, .bin .eql (.t 17) (.k (.i .i64 4))⟩,
      ⟨some 60, none, .mv (.t 61)⟩])
    (.cond (.t 60) (.draw 16 [⟨some 62, none, .mv (.t 3)⟩,
      ⟨some 63, none, .mv (.t 4)⟩,
      ⟨some 64, none, .fa 1 (.t 5)⟩,
      ⟨some 65, none, .ld (.t 64)⟩,
      ⟨some 66, none, .fa 4 (.t 5)⟩,
      ⟨some 67, none, .ld (.t 66)⟩,
      ⟨some 68, none, .fa 1 (.t 5)⟩,
      ⟨some 69, none, .ld (.t 68)⟩,
      ⟨some 70, none, .mv (.t 3)⟩,
      ⟨some 71, none, .fa 2 (.t 5)⟩,
      ⟨some 72, none, .ld (.t 71)⟩,
      ⟨some 73, none, .ia 1 (.t 70) (.t 72)⟩,
      ⟨some 74, none, .ld (.t 73)⟩,
      ⟨some 75, none, .bin .add (.t 69) (.t 74)⟩,
      ⟨some 76, none, .bin .mul (.t 67) (.t 75)⟩,
      ⟨some 77, none, .bin .add (.t 65) (.t 76)⟩,
      ⟨some 78, none, .ia 1 (.t 62) (.t 63)⟩,
      ⟨none, none, .st 1 (.t 78) (.t 77)⟩])
    (.skip)))))))))))))
    (.ops [⟨some 79, none, .bin .add (.t 11) (.k (.i .i64 1))⟩,
      ⟨some 11, none, .mv (.t 79)⟩])))
def c_impl_worst : LC := .seq (.ops [⟨some 2, none, .mv (.k (.sn))⟩])
    (.seq (.ops [⟨some 6, none, .mv (.t 0)⟩,
      ⟨some 7, none, .len (.t 6)⟩,
      ⟨some 8, none, .msl ty_int 8 [.i .i64 0] (.t 7)⟩,
      ⟨some 3, none, .mv (.t 8)⟩])
    (.seq (.seq (.ops [⟨some 9, none, .mv (.t 0)⟩,
      ⟨some 10, none, .len (.t 9)⟩,
      ⟨some 11, none, .mv (.k (.i .i64 0))⟩])
    (.block 0 (.loop l0_impl_worst)))
    (.seq (.ops [⟨some 80, none, .mv (.t 3)⟩,
      ⟨some 2, none, .mv (.t 80)⟩])
    (.ret))))
theorem k_impl_worst : chkF Try.prog Try.f76 81 c_impl_worst [.t 2] = true := by kernel_rfl
theorem call_impl_worst {args : List AV} {σ : List AB} {K : AV → List AB → Prop} (hn : args.length ≤ 81) (hw : wpC Try.prog σ.length 81 c_impl_worst (retP σ.length [.t 2] K) ⟨initT 0 args, σ⟩) : CallWp Try.prog n_impl_worst args σ K := call_fn mixed Try.func76 k_impl_worst hn hw

-- loop.example/deadlinescheduler/impl.execute
-- region 8 draws, 8 of 9 first
-- region 9 draws, 8 of 9 first
-- region 14 draws, 10 of 11 first
-- l0_impl_execute: live at the head: 0 2 7 9 61 62
def l0_impl_execute : LC := .seq (.ops [⟨some 63, none, .bin .lss (.t 62) (.t 61)⟩])
    (.seq (.cond (.t 63) (.skip)
    (.exit 1))
    (.seq (.block 2 (.draw 10 [⟨some 64, none, .mv (.t 9)⟩,
      ⟨some 65, none, .fa 1 (.t 7)⟩,
      ⟨some 66, none, .ld (.t 65)⟩,
      ⟨some 67, none, .mv (.t 0)⟩,
      ⟨some 68, none, .fa 2 (.t 7)⟩,
      ⟨some 69, none, .ld (.t 68)⟩,
      ⟨some 70, none, .mv (.t 2)⟩,
      ⟨some 71, none, .call (.k (.fn n_impl_execute [] [])) [.t 67, .t 69, .t 70]⟩,
      ⟨some 72, none, .bin .add (.t 66) (.t 71)⟩,
      ⟨some 73, none, .bin .add (.t 64) (.t 72)⟩,
      ⟨some 9, none, .mv (.t 73)⟩]))
    (.ops [⟨some 74, none, .bin .add (.t 62) (.k (.i .i64 1))⟩,
      ⟨some 62, none, .mv (.t 74)⟩])))
def c_impl_execute : LC := .seq (.ops [⟨some 6, none, .mv (.k (.i .i64 0))⟩])
    (.seq (.ops [⟨some 10, none, .mv (.t 0)⟩,
      ⟨some 11, none, .mv (.t 1)⟩,
      ⟨some 12, none, .ia 5 (.t 10) (.t 11)⟩,
      ⟨some 13, none, .ldn 5 (.t 12)⟩,
      ⟨some 7, none, .alloc ty_impl_Node [.i .i64 0, .i .i64 0, .i .i64 0, .i .i64 0, .i .i64 0]⟩,
      ⟨none, none, .st 5 (.t 7) (.t 13)⟩])
    (.seq (.seq (.ops [⟨some 14, none, .fa 0 (.t 7)⟩,
      ⟨some 15, none, .ld (.t 14)⟩])
    (.block 0 (.seq (.ops [⟨some 17, none, .bin .eql (.t 15) (.k (.i .i64 2))⟩,
      ⟨some 16, none, .mv (.t 17)⟩])
    (.cond (.t 16) (.seq (.ops [⟨some 18, none, .mv (.t 0)⟩,
      ⟨some 19, none, .fa 2 (.t 7)⟩,
      ⟨some 20, none, .ld (.t 19)⟩,
      ⟨some 21, none, .mv (.t 2)⟩,
      ⟨some 22, none, .call (.k (.fn n_impl_execute [] [])) [.t 18, .t 20, .t 21]⟩,
      ⟨some 8, none, .mv (.t 22)⟩])
    (.seq (.ops [⟨some 23, none, .mv (.t 8)⟩,
      ⟨some 24, none, .mv (.t 0)⟩,
      ⟨some 25, none, .fa 3 (.t 7)⟩,
      ⟨some 26, none, .ld (.t 25)⟩,
      ⟨some 27, none, .mv (.t 2)⟩,
      ⟨some 28, none, .call (.k (.fn n_impl_execute [] [])) [.t 24, .t 26, .t 27]⟩,
      ⟨some 29, none, .bin .add (.t 23) (.t 28)⟩,
      ⟨some 6, none, .mv (.t 29)⟩])
    (.ret)))
    (.seq (.ops [⟨some 31, none, .bin .eql (.t 15) (.k (.i .i64 3))⟩,
      ⟨some 30, none, .mv (.t 31)⟩])
    (.cond (.t 30) (.seq (.seq (.ops [⟨some 32, none, .mv (.t 2)⟩,
      ⟨some 33, none, .mv (.t 1)⟩,
      ⟨some 34, none, .call (.t 32) [.t 33, .k (.i .i64 2)]⟩,
      ⟨some 35, none, .bin .eql (.t 34) (.k (.i .i64 0))⟩])
    (.cond (.t 35) (.seq (.draw 8 [⟨some 36, none, .fa 1 (.t 7)⟩,
      ⟨some 37, none, .ld (.t 36)⟩,
      ⟨some 38, none, .mv (.t 0)⟩,
      ⟨some 39, none, .fa 2 (.t 7)⟩,
      ⟨some 40, none, .ld (.t 39)⟩,
      ⟨some 41, none, .mv (.t 2)⟩,
      ⟨some 42, none, .call (.k (.fn n_impl_execute [] [])) [.t 38, .t 40, .t 41]⟩,
      ⟨some 43, none, .bin .add (.t 37) (.t 42)⟩,
      ⟨some 6, none, .mv (.t 43)⟩])
    (.ret))
    (.skip)))
    (.seq (.draw 8 [⟨some 44, none, .fa 1 (.t 7)⟩,
      ⟨some 45, none, .ld (.t 44)⟩,
      ⟨some 46, none, .mv (.t 0)⟩,
      ⟨some 47, none, .fa 3 (.t 7)⟩,
      ⟨some 48, none, .ld (.t 47)⟩,
      ⟨some 49, none, .mv (.t 2)⟩,
      ⟨some 50, none, .call (.k (.fn n_impl_execute [] [])) [.t 46, .t 48, .t 49]⟩,
      ⟨some 51, none, .bin .add (.t 45) (.t 50)⟩,
      ⟨some 6, none, .mv (.t 51)⟩])
    (.ret)))
    (.seq (.ops [⟨some 53, none, .bin .eql (.t 15) (.k (.i .i64 4))⟩,
      ⟨some 52, none, .mv (.t 53)⟩])
    (.cond (.t 52) (.seq (.ops [⟨some 54, none, .fa 1 (.t 7)⟩,
      ⟨some 55, none, .ld (.t 54)⟩,
      ⟨some 9, none, .mv (.t 55)⟩])
    (.seq (.seq (.ops [⟨some 56, none, .mv (.t 2)⟩,
      ⟨some 57, none, .mv (.t 1)⟩,
      ⟨some 58, none, .fa 4 (.t 7)⟩,
      ⟨some 59, none, .ld (.t 58)⟩,
      ⟨some 60, none, .bin .add (.t 59) (.k (.i .i64 1))⟩,
      ⟨some 61, none, .call (.t 56) [.t 57, .t 60]⟩,
      ⟨some 62, none, .mv (.k (.i .i64 0))⟩])
    (.block 1 (.loop l0_impl_execute)))
    (.seq (.ops [⟨some 75, none, .mv (.t 9)⟩,
      ⟨some 6, none, .mv (.t 75)⟩])
    (.ret))))
    (.skip)))))))))
    (.seq (.ops [⟨some 76, none, .fa 1 (.t 7)⟩,
      ⟨some 77, none, .ld (.t 76)⟩,
      ⟨some 6, none, .mv (.t 77)⟩])
    (.ret))))
theorem k_impl_execute : chkF Try.prog Try.f77 78 c_impl_execute [.t 6] = true := by kernel_rfl
theorem call_impl_execute {args : List AV} {σ : List AB} {K : AV → List AB → Prop} (hn : args.length ≤ 78) (hw : wpC Try.prog σ.length 78 c_impl_execute (retP σ.length [.t 6] K) ⟨initT 0 args, σ⟩) : CallWp Try.prog n_impl_execute args σ K := call_fn mixed Try.func77 k_impl_execute hn hw

-- loop.example/deadlinescheduler/impl.WorstChoices$1
-- region 3 draws, 16 of 16 first
-- a cut
def c_impl_WorstChoices_1 : LC := .seq (.ops [⟨some 7, none, .mv (.k (.i .i64 0))⟩])
    (.seq (.ops [⟨some 10, none, .ld (.t 2)⟩,
      ⟨some 11, none, .mv (.t 0)⟩,
      ⟨some 12, none, .ia 5 (.t 10) (.t 11)⟩,
      ⟨some 13, none, .ldn 5 (.t 12)⟩,
      ⟨some 8, none, .alloc ty_impl_Node [.i .i64 0, .i .i64 0, .i .i64 0, .i .i64 0, .i .i64 0]⟩,
      ⟨none, none, .st 5 (.t 8) (.t 13)⟩])
    (.seq (.ops [⟨some 14, none, .mv (.t 1)⟩,
      ⟨some 15, none, .bin .sub (.t 14) (.k (.i .i64 1))⟩,
      ⟨some 9, none, .mv (.t 15)⟩])
    (.join (.seq (.draw 16 [⟨some 16, none, .fa 0 (.t 8)⟩,
      ⟨some 17, none, .ld (.t 16)⟩,
      ⟨some 18, none, .bin .eql (.t 17) (.k (.i .i64 3))⟩,
      ⟨some 19, none, .mv (.t 18)⟩,
      ⟨some 20, (some (19, true)), .ld (.t 3)⟩,
      ⟨some 21, (some (19, true)), .fa 3 (.t 8)⟩,
      ⟨some 22, (some (19, true)), .ld (.t 21)⟩,
      ⟨some 23, (some (19, true)), .ia 1 (.t 20) (.t 22)⟩,
      ⟨some 24, (some (19, true)), .ld (.t 23)⟩,
      ⟨some 25, (some (19, true)), .ld (.t 3)⟩,
      ⟨some 26, (some (19, true)), .fa 2 (.t 8)⟩,
      ⟨some 27, (some (19, true)), .ld (.t 26)⟩,
      ⟨some 28, (some (19, true)), .ia 1 (.t 25) (.t 27)⟩,
      ⟨some 29, (some (19, true)), .ld (.t 28)⟩,
      ⟨some 30, (some (19, true)), .bin .leq (.t 24) (.t 29)⟩,
      ⟨some 31, none, .pick (.t 19) (.t 30) (.k (.b false))⟩])
    (.cond (.t 31) (.ops [⟨some 9, none, .mv (.k (.i .i64 0))⟩])
    (.skip)))
    (.seq (.ops [⟨some 32, none, .ld (.t 4)⟩,
      ⟨some 33, none, .mv (.t 9)⟩,
      ⟨some 34, none, .bsl ty_int [.i .i64 0] 1 [(0, 1, .t 33)]⟩,
      ⟨some 35, none, .app ty_int 1 8 (.t 32) (.t 34)⟩,
      ⟨none, none, .st 1 (.t 4) (.t 35)⟩])
    (.seq (.ops [⟨some 36, none, .mv (.t 9)⟩,
      ⟨some 7, none, .mv (.t 36)⟩])
    (.ret))))))
theorem k_impl_WorstChoices_1 : chkF Try.prog Try.f78 37 c_impl_WorstChoices_1 [.t 7] = true := by kernel_rfl
theorem call_impl_WorstChoices_1 {args : List AV} {σ : List AB} {K : AV → List AB → Prop} (hn : args.length ≤ 37) (hw : wpC Try.prog σ.length 37 c_impl_WorstChoices_1 (retP σ.length [.t 7] K) ⟨initT 0 args, σ⟩) : CallWp Try.prog n_impl_WorstChoices_1 args σ K := call_fn mixed Try.func78 k_impl_WorstChoices_1 hn hw

-- loop.example/deadlinescheduler/impl.clone[int]
def c_impl_clone_int : LC := .seq (.ops [⟨some 2, none, .mv (.k (.sn))⟩])
    (.seq (.ops [⟨some 3, none, .mv (.t 0)⟩,
      ⟨some 4, none, .call (.k (.fn n_slices_Clone_int [] [])) [.t 3]⟩,
      ⟨some 5, none, .call (.k (.fn n_slices_Clip_int [] [])) [.t 4]⟩,
      ⟨some 2, none, .mv (.t 5)⟩])
    (.ret))
theorem k_impl_clone_int : chkF Try.prog Try.f79 6 c_impl_clone_int [.t 2] = true := by kernel_rfl
theorem call_impl_clone_int {args : List AV} {σ : List AB} {K : AV → List AB → Prop} (hn : args.length ≤ 6) (hw : wpC Try.prog σ.length 6 c_impl_clone_int (retP σ.length [.t 2] K) ⟨initT 0 args, σ⟩) : CallWp Try.prog n_impl_clone_int args σ K := call_fn mixed Try.func79 k_impl_clone_int hn hw

end Go.Proofs.Ytfngcejaphhmmaa
