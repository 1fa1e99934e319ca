/- Lowered code of Go functions, printed by a program of this session (lower.py), and that it is the loaded code: checked by the kernel. -/
import Derived.Test.YtgnlibnnpipbhaaProg
import Derived.Test.YtgnlibnnpipbhaaAbsY
import Derived.KernelRfl
namespace Go.Proofs.Ytgnlibnnpipbhaa
open Go.Abs
set_option maxRecDepth 100000

theorem mixed : Try.prog.follows .mixedOrders = true := by kernel_rfl
abbrev n_laws_FnFixedChoice : Nat := 3
abbrev n_laws_FnRunFixed : Nat := 4
abbrev n_laws_FnEdfOptimal : Nat := 5
abbrev n_laws_FnFixedSafe : Nat := 6
abbrev n_laws_FnEdfExact : Nat := 7
abbrev n_laws_FnResponseExact : Nat := 8
abbrev n_laws_FnMonotonic : Nat := 9
abbrev n_laws_FnCheckLength : Nat := 10
abbrev n_laws_FnCheckSound : Nat := 11
abbrev n_laws_FnCheckTamper : Nat := 12
abbrev n_laws_FnCheckEdf : Nat := 13
abbrev n_spec_DrawRunFixed : Nat := 14
abbrev n_impl_RunFixed : Nat := 15
abbrev n_laws_sameSchedule : Nat := 16
abbrev n_spec_RunFixed : Nat := 17
abbrev n_laws_alive : Nat := 18
abbrev n_spec_OrderValid : Nat := 19
abbrev n_spec_JobsLegal : Nat := 20
abbrev n_laws_sameInts : Nat := 21
abbrev n_impl_Missed : Nat := 22
abbrev n_impl_RunEdf : Nat := 23
abbrev n_impl_FixedFeasible : Nat := 24
abbrev n_impl_ResponseTimes : Nat := 25
abbrev n_spec_DrawFirstOverload : Nat := 26
abbrev n_impl_FirstOverload : Nat := 27
abbrev n_spec_FirstOverload : Nat := 28
abbrev n_impl_Synchronous : Nat := 29
abbrev n_impl_DeadlineMonotonic : Nat := 30
abbrev n_impl_JobsLegal : Nat := 31
abbrev n_spec_DrawResponseTimes : Nat := 32
abbrev n_spec_ResponseTimes : Nat := 33
abbrev n_spec_DrawDeadlineMonotonic : Nat := 34
abbrev n_spec_DeadlineMonotonic : Nat := 35
abbrev n_spec_SetValid : Nat := 36
abbrev n_impl_AssignPriorities : Nat := 37
abbrev n_impl_OrderValid : Nat := 38
abbrev n_spec_DrawCheckSchedule : Nat := 39
abbrev n_impl_CheckSchedule : Nat := 40
abbrev n_spec_CheckSchedule : Nat := 41
abbrev n_laws_executed : Nat := 42
abbrev n_spec_DrawRunEdf : Nat := 43
abbrev n_spec_RunEdf : Nat := 44
abbrev n_spec_l20Open : Nat := 45
abbrev n_spec_l20Set : Nat := 46
abbrev n_spec_l20Order : Nat := 47
abbrev n_spec_l20Jobs : Nat := 48
abbrev n_impl_simulate : Nat := 49
abbrev n_impl_fixed : Nat := 50
abbrev n_spec_l4Index : Nat := 51
abbrev n_spec_l3Run : Nat := 52
abbrev n_impl_TaskValid : Nat := 53
abbrev n_spec_l1In : Nat := 54
abbrev n_impl_missed : Nat := 55
abbrev n_impl_edf : Nat := 56
abbrev n_slices_Contains_int : Nat := 57
abbrev n_impl_responses : Nat := 58
abbrev n_impl_SetValid : Nat := 59
abbrev n_impl_hyper : Nat := 60
abbrev n_impl_demand : Nat := 61
abbrev n_spec_l2Overload : Nat := 62
abbrev n_spec_l1Hyper : Nat := 63
abbrev n_impl_in : Nat := 64
abbrev n_slices_Clip_impl_Job : Nat := 65
abbrev n_impl_indices : Nat := 66
abbrev n_slices_SortStableFunc_int : Nat := 67
abbrev n_impl_DeadlineMonotonic_1 : Nat := 68
abbrev n_impl_ordered : Nat := 69
abbrev n_impl_JobsLegal_1 : Nat := 70
abbrev n_impl_spaced : Nat := 71
abbrev n_impl_release : Nat := 72
abbrev n_impl_JobsLegal_2 : Nat := 73
abbrev n_slices_ContainsFunc_impl_Job : Nat := 74
abbrev n_impl_JobsLegal_3 : Nat := 75
abbrev n_spec_l4Response : Nat := 76
abbrev n_spec_TaskValid : Nat := 77
abbrev n_slices_IndexFunc_int : Nat := 78
abbrev n_impl_AssignPriorities_1 : Nat := 79
abbrev n_slices_DeleteFunc_int : Nat := 80
abbrev n_slices_Clone_int : Nat := 81
abbrev n_impl_AssignPriorities_1_1 : Nat := 82
abbrev n_impl_response : Nat := 83
abbrev n_slices_Delete_int : Nat := 84
abbrev n_slices_Index_int : Nat := 85
abbrev n_spec_l20Rd_pick : Nat := 86
abbrev n_impl_newMachine : Nat := 87
abbrev n_impl_machine_checkTick : Nat := 88
abbrev n_spec_l9Tick : Nat := 89
abbrev n_spec_l3Deadlines : Nat := 90
abbrev n_spec_l20Task : Nat := 91
abbrev n_spec_l20Rd_odd : Nat := 92
abbrev n_impl_none : Nat := 93
abbrev n_impl_fixed_1 : Nat := 94
abbrev n_impl_machine_best : Nat := 95
abbrev n_impl_fixed_1_1 : Nat := 96
abbrev n_impl_machine_any : Nat := 97
abbrev n_spec_l3Best : Nat := 98
abbrev n_slices_Clip_int : Nat := 99
abbrev n_impl_machine_deadline : Nat := 100
abbrev n_slices_ContainsFunc_impl_Task : Nat := 101
abbrev n_impl_SetValid_1 : Nat := 102
abbrev n_impl_lcm : Nat := 103
abbrev n_spec_l2Demand : Nat := 104
abbrev n_spec_l1Gcd : Nat := 105
abbrev n_slices_stableCmpFunc_int : Nat := 106
abbrev n_slices_IndexFunc_impl_Job : Nat := 107
abbrev n_impl_ceil : Nat := 108
abbrev n_impl_machine_ready : Nat := 109
abbrev n_slices_Repeat_int : Nat := 110
abbrev n_slices_IndexFunc_impl_Task : Nat := 111
abbrev n_impl_gcd : Nat := 112
abbrev n_slices_insertionSortCmpFunc_int : Nat := 113
abbrev n_slices_symMergeCmpFunc_int : Nat := 114
abbrev n_math_bits_Mul : Nat := 115
abbrev n_slices_rotateCmpFunc_int : Nat := 116
abbrev n_math_bits_Mul32 : Nat := 117
abbrev n_math_bits_Mul64 : Nat := 118
abbrev n_slices_swapRangeCmpFunc_int : Nat := 119
abbrev ty_int : Nat := 3
abbrev ty_bool : Nat := 4
abbrev ty_uint8 : Nat := 5
abbrev ty_string : Nat := 9
abbrev ty_ptr_runtime_TypeAssertionError : Nat := 15
abbrev ty_ptr_runtime_PanicNilError : Nat := 16
abbrev ty_ptr_abi_Type : Nat := 17
abbrev ty_sl_uint8 : Nat := 22
abbrev ty_sl_impl_Task : Nat := 23
abbrev ty_sl_int : Nat := 24
abbrev ty_sl_impl_Job : Nat := 25
abbrev ty_impl_Schedule : Nat := 29
abbrev ty_impl_Job : Nat := 34
abbrev ty_impl_Task : Nat := 50
abbrev ty_ptr_spec_l20Rd : Nat := 60
abbrev ty_ptr_impl_machine : Nat := 93
abbrev ty_impl_machine : Nat := 96
abbrev ty_spec_l20Rd : Nat := 100
abbrev ty_ptr_uint8 : Nat := 132

-- loop.example/deadlinescheduler/laws.FnFixedChoice
-- region 5: a plan with 1 orders
-- region 22 draws, 42 of 42 first
-- l2_laws_FnFixedChoice: live at the head: 4 5 6 7 8 80 81 82 83 84 85 86 87 88 89 92 93 94 95 96 97 98 99 100 101 102 103 104 105 106 107 108 109 110 111 112
-- l1_laws_FnFixedChoice: live at the head: 5 6 7 9 10 80 81 82 83 84 85 86 87 88 89 92 93 94 95 96 97 98 99 100 101 102 103 104 105 106 107 108 109 110 111 112
-- l0_laws_FnFixedChoice: live at the head: 5 6 7 9 10 11 12 80 81 82 83 84 85 86 87 88 89 92 93 94 95 96 97 98 99 100 101 102 103 104 105 106 107 108 109 110 111 112
def l0_laws_FnFixedChoice : LC := .seq (.seq (.ops [⟨some 66, none, .mv (.t 12)⟩,
      ⟨some 67, none, .mv (.t 5)⟩,
      ⟨some 68, none, .len (.t 67)⟩,
      ⟨some 69, none, .bin .lss (.t 66) (.t 68)⟩])
    (.cond (.t 69) (.skip)
    (.exit 4)))
    (.seq (.block 5 (.seq (.draw 42 [⟨some 72, none, .mv (.t 5)⟩,
      ⟨some 73, none, .mv (.t 12)⟩,
      ⟨some 74, none, .ia 4 (.t 72) (.t 73)⟩,
      ⟨some 75, none, .fa 1 (.t 74)⟩,
      ⟨some 76, none, .ld (.t 75)⟩,
      ⟨some 77, none, .mv (.t 10)⟩,
      ⟨some 78, none, .bin .leq (.t 76) (.t 77)⟩,
      ⟨some 79, none, .mv (.t 78)⟩,
      ⟨some 80, (some (79, true)), .mv (.t 9)⟩,
      ⟨some 81, (some (79, true)), .mv (.t 12)⟩,
      ⟨some 82, (some (79, true)), .ia 1 (.t 80) (.t 81)⟩,
      ⟨some 83, (some (79, true)), .ld (.t 82)⟩,
      ⟨some 84, (some (79, true)), .mv (.t 5)⟩,
      ⟨some 85, (some (79, true)), .mv (.t 12)⟩,
      ⟨some 86, (some (79, true)), .ia 4 (.t 84) (.t 85)⟩,
      ⟨some 87, (some (79, true)), .fa 3 (.t 86)⟩,
      ⟨some 88, (some (79, true)), .ld (.t 87)⟩,
      ⟨some 89, (some (79, true)), .bin .lss (.t 83) (.t 88)⟩,
      ⟨some 90, none, .pick (.t 79) (.t 89) (.k (.b false))⟩,
      ⟨some 91, none, .mv (.t 90)⟩,
      ⟨some 92, (some (91, true)), .mv (.t 11)⟩,
      ⟨some 93, (some (91, true)), .bin .lss (.t 92) (.k (.i .i64 0))⟩,
      ⟨some 94, (some (91, true)), .mv (.t 93)⟩,
      ⟨some 95, (some (94, false)), .mv (.t 7)⟩,
      ⟨some 96, (some (94, false)), .mv (.t 5)⟩,
      ⟨some 97, (some (94, false)), .mv (.t 12)⟩,
      ⟨some 98, (some (94, false)), .ia 4 (.t 96) (.t 97)⟩,
      ⟨some 99, (some (94, false)), .fa 0 (.t 98)⟩,
      ⟨some 100, (some (94, false)), .ld (.t 99)⟩,
      ⟨some 101, (some (94, false)), .ia 1 (.t 95) (.t 100)⟩,
      ⟨some 102, (some (94, false)), .ld (.t 101)⟩,
      ⟨some 103, (some (94, false)), .mv (.t 7)⟩,
      ⟨some 104, (some (94, false)), .mv (.t 5)⟩,
      ⟨some 105, (some (94, false)), .mv (.t 11)⟩,
      ⟨some 106, (some (94, false)), .ia 4 (.t 104) (.t 105)⟩,
      ⟨some 107, (some (94, false)), .fa 0 (.t 106)⟩,
      ⟨some 108, (some (94, false)), .ld (.t 107)⟩,
      ⟨some 109, (some (94, false)), .ia 1 (.t 103) (.t 108)⟩,
      ⟨some 110, (some (94, false)), .ld (.t 109)⟩,
      ⟨some 111, (some (94, false)), .bin .lss (.t 102) (.t 110)⟩,
      ⟨some 112, (some (91, true)), .pick (.t 94) (.k (.b true)) (.t 111)⟩,
      ⟨some 113, none, .pick (.t 91) (.t 112) (.k (.b false))⟩])
    (.cond (.t 113) (.seq (.ops [⟨some 2, none, .mv (.k (.b false))⟩])
    (.ret))
    (.skip))))
    (.ops [⟨some 70, none, .mv (.t 12)⟩,
      ⟨some 71, none, .bin .add (.t 70) (.k (.i .i64 1))⟩,
      ⟨some 12, none, .mv (.t 71)⟩]))
def l1_laws_FnFixedChoice : LC := .seq (.seq (.ops [⟨some 57, none, .mv (.t 10)⟩,
      ⟨some 58, none, .bin .lss (.t 57) (.k (.i .i64 120))⟩])
    (.cond (.t 58) (.skip)
    (.exit 2)))
    (.seq (.block 3 (.seq (.ops [⟨some 61, none, .fa 0 (.t 6)⟩,
      ⟨some 62, none, .ld (.t 61)⟩,
      ⟨some 63, none, .mv (.t 10)⟩,
      ⟨some 64, none, .ia 1 (.t 62) (.t 63)⟩,
      ⟨some 65, none, .ld (.t 64)⟩,
      ⟨some 11, none, .mv (.t 65)⟩])
    (.seq (.seq (.ops [⟨some 12, none, .mv (.k (.i .i64 0))⟩])
    (.block 4 (.loop l0_laws_FnFixedChoice)))
    (.seq (.ops [⟨some 114, none, .mv (.t 11)⟩,
      ⟨some 115, none, .bin .geq (.t 114) (.k (.i .i64 0))⟩])
    (.cond (.t 115) (.ops [⟨some 116, none, .mv (.t 9)⟩,
      ⟨some 117, none, .mv (.t 11)⟩,
      ⟨some 118, none, .mv (.t 9)⟩,
      ⟨some 119, none, .mv (.t 11)⟩,
      ⟨some 120, none, .ia 1 (.t 118) (.t 119)⟩,
      ⟨some 121, none, .ld (.t 120)⟩,
      ⟨some 122, none, .bin .add (.t 121) (.k (.i .i64 1))⟩,
      ⟨some 123, none, .ia 1 (.t 116) (.t 117)⟩,
      ⟨none, none, .st 1 (.t 123) (.t 122)⟩])
    (.skip))))))
    (.ops [⟨some 59, none, .mv (.t 10)⟩,
      ⟨some 60, none, .bin .add (.t 59) (.k (.i .i64 1))⟩,
      ⟨some 10, none, .mv (.t 60)⟩]))
def l2_laws_FnFixedChoice : LC := .seq (.seq (.ops [⟨some 41, none, .mv (.t 8)⟩,
      ⟨some 42, none, .mv (.t 4)⟩,
      ⟨some 43, none, .len (.t 42)⟩,
      ⟨some 44, none, .bin .lss (.t 41) (.t 43)⟩])
    (.cond (.t 44) (.skip)
    (.exit 0)))
    (.seq (.block 1 (.ops [⟨some 47, none, .mv (.t 7)⟩,
      ⟨some 48, none, .mv (.t 4)⟩,
      ⟨some 49, none, .mv (.t 8)⟩,
      ⟨some 50, none, .ia 1 (.t 48) (.t 49)⟩,
      ⟨some 51, none, .ld (.t 50)⟩,
      ⟨some 52, none, .mv (.t 8)⟩,
      ⟨some 53, none, .ia 1 (.t 47) (.t 51)⟩,
      ⟨none, none, .st 1 (.t 53) (.t 52)⟩]))
    (.ops [⟨some 45, none, .mv (.t 8)⟩,
      ⟨some 46, none, .bin .add (.t 45) (.k (.i .i64 1))⟩,
      ⟨some 8, none, .mv (.t 46)⟩]))
def c_laws_FnFixedChoice : LC := .seq (.ops [⟨some 2, none, .mv (.k (.b false))⟩])
    (.seq (.seq (.ops [⟨some 13, none, .mv (.t 0)⟩,
      ⟨some 14, none, .len (.t 13)⟩,
      ⟨some 15, none, .bin .gtr (.t 14) (.k (.i .i64 1048576))⟩])
    (.cond (.t 15) (.seq (.ops [⟨some 2, none, .mv (.k (.b true))⟩])
    (.ret))
    (.skip)))
    (.seq (.ops [⟨some 17, none, .mv (.t 0)⟩,
      ⟨some 18, none, .call (.k (.fn n_spec_DrawRunFixed [] [])) [.t 17]⟩,
      ⟨some 16, none, .mv (.t 18)⟩,
      ⟨some 19, none, .ext 0 (.t 16)⟩,
      ⟨some 20, none, .ext 1 (.t 16)⟩,
      ⟨some 21, none, .ext 2 (.t 16)⟩,
      ⟨some 3, none, .mv (.t 19)⟩,
      ⟨some 4, none, .mv (.t 20)⟩,
      ⟨some 5, none, .mv (.t 21)⟩])
    (.seq (.ops [⟨some 22, none, .mv (.t 3)⟩,
      ⟨some 23, none, .mv (.t 4)⟩,
      ⟨some 24, none, .mv (.t 5)⟩,
      ⟨some 25, none, .call (.k (.fn n_impl_RunFixed [] [])) [.t 22, .t 23, .t 24]⟩,
      ⟨some 6, none, .alloc ty_impl_Schedule [.sn, .sn]⟩,
      ⟨none, none, .st 2 (.t 6) (.t 25)⟩])
    (.seq (.seq (.plan [0, 1, 2, 3] [⟨some 26, none, .ldn 2 (.t 6)⟩,
      ⟨some 27, none, .mv (.t 3)⟩,
      ⟨some 28, none, .mv (.t 4)⟩,
      ⟨some 29, none, .mv (.t 5)⟩]
      (.one 4 ⟨some 30, none, .call (.k (.fn n_spec_RunFixed [] [])) [.t 27, .t 28, .t 29]⟩ [(26, some 2, 6)] []
        []
      (.one 5 ⟨some 31, none, .call (.k (.fn n_laws_sameSchedule [] [])) [.t 26, .t 30]⟩ [] [6]
        [⟨some 32, none, .not (.t 31)⟩]
      .fin)))
    (.cond (.t 32) (.seq (.ops [⟨some 2, none, .mv (.k (.b false))⟩])
    (.ret))
    (.skip)))
    (.seq (.seq (.ops [⟨some 33, none, .fa 0 (.t 6)⟩,
      ⟨some 34, none, .ld (.t 33)⟩,
      ⟨some 35, none, .len (.t 34)⟩,
      ⟨some 36, none, .bin .neq (.t 35) (.k (.i .i64 120))⟩])
    (.cond (.t 36) (.seq (.ops [⟨some 37, none, .call (.k (.fn n_laws_alive [] [])) []⟩,
      ⟨some 2, none, .mv (.t 37)⟩])
    (.ret))
    (.skip)))
    (.seq (.ops [⟨some 38, none, .mv (.t 3)⟩,
      ⟨some 39, none, .len (.t 38)⟩,
      ⟨some 40, none, .msl ty_int 8 [.i .i64 0] (.t 39)⟩,
      ⟨some 7, none, .mv (.t 40)⟩])
    (.seq (.seq (.ops [⟨some 8, none, .mv (.k (.i .i64 0))⟩])
    (.block 0 (.loop l2_laws_FnFixedChoice)))
    (.seq (.ops [⟨some 54, none, .mv (.t 5)⟩,
      ⟨some 55, none, .len (.t 54)⟩,
      ⟨some 56, none, .msl ty_int 8 [.i .i64 0] (.t 55)⟩,
      ⟨some 9, none, .mv (.t 56)⟩])
    (.seq (.seq (.ops [⟨some 10, none, .mv (.k (.i .i64 0))⟩])
    (.block 2 (.loop l1_laws_FnFixedChoice)))
    (.seq (.ops [⟨some 2, none, .mv (.k (.b true))⟩])
    (.ret)))))))))))
theorem k_laws_FnFixedChoice : chkF Try.prog Try.f3 124 c_laws_FnFixedChoice [.t 2] = true := by kernel_rfl
theorem call_laws_FnFixedChoice {args : List AV} {σ : List AB} {K : AV → List AB → Prop} (hn : args.length ≤ 124) (hw : wpC Try.prog σ.length 124 c_laws_FnFixedChoice (retP σ.length [.t 2] K) ⟨initT 0 args, σ⟩) : CallWp Try.prog n_laws_FnFixedChoice args σ K := call_fn mixed Try.func3 k_laws_FnFixedChoice hn hw
theorem callC_laws_FnFixedChoice {args : List AV} {σ : List AB} {K : AV → List AB → Prop} (hn : args.length ≤ 124) (hw : Closed σ → args.all (below1 σ.length) = true → wpC Try.prog σ.length 124 c_laws_FnFixedChoice (retP σ.length [.t 2] K) ⟨initT 0 args, σ⟩) : CallWp Try.prog n_laws_FnFixedChoice args σ K := call_fnC mixed Try.func3 k_laws_FnFixedChoice hn hw

-- loop.example/deadlinescheduler/laws.FnRunFixed
-- region 5: a plan with 1 orders
-- l0_laws_FnRunFixed: live at the head: 3 4 5 6 7 8 9 10
def l0_laws_FnRunFixed : LC := .seq (.seq (.ops [⟨some 55, none, .mv (.t 10)⟩,
      ⟨some 56, none, .mv (.t 5)⟩,
      ⟨some 57, none, .len (.t 56)⟩,
      ⟨some 58, none, .bin .lss (.t 55) (.t 57)⟩])
    (.cond (.t 58) (.skip)
    (.exit 0)))
    (.seq (.block 1 (.seq (.ops [⟨some 61, none, .mv (.t 5)⟩,
      ⟨some 62, none, .mv (.t 10)⟩,
      ⟨some 63, none, .ia 4 (.t 61) (.t 62)⟩,
      ⟨some 64, none, .fa 0 (.t 63)⟩,
      ⟨some 65, none, .ld (.t 64)⟩,
      ⟨some 66, none, .mv (.t 7)⟩,
      ⟨some 67, none, .bin .neq (.t 65) (.t 66)⟩])
    (.cond (.t 67) (.seq (.ops [⟨some 68, none, .mv (.t 8)⟩,
      ⟨some 69, none, .mv (.t 5)⟩,
      ⟨some 70, none, .mv (.t 10)⟩,
      ⟨some 71, none, .ia 4 (.t 69) (.t 70)⟩,
      ⟨some 72, none, .ldn 4 (.t 71)⟩,
      ⟨some 73, none, .bsl ty_impl_Job [.i .i64 0, .i .i64 0, .i .i64 0, .i .i64 0] 1 [(0, 4, .t 72)]⟩,
      ⟨some 74, none, .app ty_impl_Job 4 32 (.t 68) (.t 73)⟩,
      ⟨some 8, none, .mv (.t 74)⟩])
    (.ops [⟨some 75, none, .mv (.t 9)⟩,
      ⟨some 76, none, .fa 1 (.t 6)⟩,
      ⟨some 77, none, .ld (.t 76)⟩,
      ⟨some 78, none, .mv (.t 10)⟩,
      ⟨some 79, none, .ia 1 (.t 77) (.t 78)⟩,
      ⟨some 80, none, .ld (.t 79)⟩,
      ⟨some 81, none, .bsl ty_int [.i .i64 0] 1 [(0, 1, .t 80)]⟩,
      ⟨some 82, none, .app ty_int 1 8 (.t 75) (.t 81)⟩,
      ⟨some 9, none, .mv (.t 82)⟩]))
    (.skip))))
    (.ops [⟨some 59, none, .mv (.t 10)⟩,
      ⟨some 60, none, .bin .add (.t 59) (.k (.i .i64 1))⟩,
      ⟨some 10, none, .mv (.t 60)⟩]))
def c_laws_FnRunFixed : LC := .seq (.ops [⟨some 2, none, .mv (.k (.b false))⟩])
    (.seq (.seq (.ops [⟨some 11, none, .mv (.t 0)⟩,
      ⟨some 12, none, .len (.t 11)⟩,
      ⟨some 13, none, .bin .gtr (.t 12) (.k (.i .i64 1048576))⟩])
    (.cond (.t 13) (.seq (.ops [⟨some 2, none, .mv (.k (.b true))⟩])
    (.ret))
    (.skip)))
    (.seq (.ops [⟨some 15, none, .mv (.t 0)⟩,
      ⟨some 16, none, .call (.k (.fn n_spec_DrawRunFixed [] [])) [.t 15]⟩,
      ⟨some 14, none, .mv (.t 16)⟩,
      ⟨some 17, none, .ext 0 (.t 14)⟩,
      ⟨some 18, none, .ext 1 (.t 14)⟩,
      ⟨some 19, none, .ext 2 (.t 14)⟩,
      ⟨some 3, none, .mv (.t 17)⟩,
      ⟨some 4, none, .mv (.t 18)⟩,
      ⟨some 5, none, .mv (.t 19)⟩])
    (.seq (.ops [⟨some 20, none, .mv (.t 3)⟩,
      ⟨some 21, none, .mv (.t 4)⟩,
      ⟨some 22, none, .mv (.t 5)⟩,
      ⟨some 23, none, .call (.k (.fn n_impl_RunFixed [] [])) [.t 20, .t 21, .t 22]⟩,
      ⟨some 6, none, .alloc ty_impl_Schedule [.sn, .sn]⟩,
      ⟨none, none, .st 2 (.t 6) (.t 23)⟩])
    (.seq (.seq (.plan [0, 1, 2, 3] [⟨some 24, none, .ldn 2 (.t 6)⟩,
      ⟨some 25, none, .mv (.t 3)⟩,
      ⟨some 26, none, .mv (.t 4)⟩,
      ⟨some 27, none, .mv (.t 5)⟩]
      (.one 4 ⟨some 28, none, .call (.k (.fn n_spec_RunFixed [] [])) [.t 25, .t 26, .t 27]⟩ [(24, some 2, 6)] []
        []
      (.one 5 ⟨some 29, none, .call (.k (.fn n_laws_sameSchedule [] [])) [.t 24, .t 28]⟩ [] [6]
        [⟨some 30, none, .not (.t 29)⟩]
      .fin)))
    (.cond (.t 30) (.seq (.ops [⟨some 2, none, .mv (.k (.b false))⟩])
    (.ret))
    (.skip)))
    (.seq (.seq (.ops [⟨some 31, none, .mv (.t 3)⟩,
      ⟨some 32, none, .mv (.t 4)⟩,
      ⟨some 33, none, .call (.k (.fn n_spec_OrderValid [] [])) [.t 31, .t 32]⟩,
      ⟨some 34, none, .not (.t 33)⟩,
      ⟨some 35, none, .mv (.t 34)⟩,
      ⟨some 36, (some (35, false)), .mv (.t 3)⟩,
      ⟨some 37, (some (35, false)), .mv (.t 5)⟩,
      ⟨some 38, (some (35, false)), .call (.k (.fn n_spec_JobsLegal [] [])) [.t 36, .t 37]⟩,
      ⟨some 39, (some (35, false)), .not (.t 38)⟩,
      ⟨some 40, none, .pick (.t 35) (.k (.b true)) (.t 39)⟩,
      ⟨some 41, none, .mv (.t 40)⟩,
      ⟨some 42, (some (41, false)), .mv (.t 4)⟩,
      ⟨some 43, (some (41, false)), .len (.t 42)⟩,
      ⟨some 44, (some (41, false)), .bin .eql (.t 43) (.k (.i .i64 0))⟩,
      ⟨some 45, none, .pick (.t 41) (.k (.b true)) (.t 44)⟩])
    (.cond (.t 45) (.seq (.ops [⟨some 46, none, .call (.k (.fn n_laws_alive [] [])) []⟩,
      ⟨some 2, none, .mv (.t 46)⟩])
    (.ret))
    (.skip)))
    (.seq (.ops [⟨some 47, none, .mv (.t 4)⟩,
      ⟨some 48, none, .mv (.t 4)⟩,
      ⟨some 49, none, .len (.t 48)⟩,
      ⟨some 50, none, .bin .sub (.t 49) (.k (.i .i64 1))⟩,
      ⟨some 51, none, .ia 1 (.t 47) (.t 50)⟩,
      ⟨some 52, none, .ld (.t 51)⟩,
      ⟨some 7, none, .mv (.t 52)⟩])
    (.seq (.ops [⟨some 53, none, .bsl ty_impl_Job [.i .i64 0, .i .i64 0, .i .i64 0, .i .i64 0] 0 []⟩,
      ⟨some 8, none, .mv (.t 53)⟩])
    (.seq (.ops [⟨some 54, none, .bsl ty_int [.i .i64 0] 0 []⟩,
      ⟨some 9, none, .mv (.t 54)⟩])
    (.seq (.seq (.ops [⟨some 10, none, .mv (.k (.i .i64 0))⟩])
    (.block 0 (.loop l0_laws_FnRunFixed)))
    (.seq (.ops [⟨some 83, none, .mv (.t 3)⟩,
      ⟨some 84, none, .mv (.t 4)⟩,
      ⟨some 85, none, .mv (.t 8)⟩,
      ⟨some 86, none, .call (.k (.fn n_impl_RunFixed [] [])) [.t 83, .t 84, .t 85]⟩,
      ⟨some 87, none, .fld 1 (.t 86)⟩,
      ⟨some 88, none, .mv (.t 9)⟩,
      ⟨some 89, none, .call (.k (.fn n_laws_sameInts [] [])) [.t 87, .t 88]⟩,
      ⟨some 2, none, .mv (.t 89)⟩])
    (.ret)))))))))))
theorem k_laws_FnRunFixed : chkF Try.prog Try.f4 90 c_laws_FnRunFixed [.t 2] = true := by kernel_rfl
theorem call_laws_FnRunFixed {args : List AV} {σ : List AB} {K : AV → List AB → Prop} (hn : args.length ≤ 90) (hw : wpC Try.prog σ.length 90 c_laws_FnRunFixed (retP σ.length [.t 2] K) ⟨initT 0 args, σ⟩) : CallWp Try.prog n_laws_FnRunFixed args σ K := call_fn mixed Try.func4 k_laws_FnRunFixed hn hw
theorem callC_laws_FnRunFixed {args : List AV} {σ : List AB} {K : AV → List AB → Prop} (hn : args.length ≤ 90) (hw : Closed σ → args.all (below1 σ.length) = true → wpC Try.prog σ.length 90 c_laws_FnRunFixed (retP σ.length [.t 2] K) ⟨initT 0 args, σ⟩) : CallWp Try.prog n_laws_FnRunFixed args σ K := call_fnC mixed Try.func4 k_laws_FnRunFixed hn hw

-- loop.example/deadlinescheduler/laws.FnEdfOptimal
-- region 5: a plan with 1 orders
def c_laws_FnEdfOptimal : LC := .seq (.ops [⟨some 2, none, .mv (.k (.b false))⟩])
    (.seq (.seq (.ops [⟨some 7, none, .mv (.t 0)⟩,
      ⟨some 8, none, .len (.t 7)⟩,
      ⟨some 9, none, .bin .gtr (.t 8) (.k (.i .i64 1048576))⟩])
    (.cond (.t 9) (.seq (.ops [⟨some 2, none, .mv (.k (.b true))⟩])
    (.ret))
    (.skip)))
    (.seq (.ops [⟨some 11, none, .mv (.t 0)⟩,
      ⟨some 12, none, .call (.k (.fn n_spec_DrawRunFixed [] [])) [.t 11]⟩,
      ⟨some 10, none, .mv (.t 12)⟩,
      ⟨some 13, none, .ext 0 (.t 10)⟩,
      ⟨some 14, none, .ext 1 (.t 10)⟩,
      ⟨some 15, none, .ext 2 (.t 10)⟩,
      ⟨some 3, none, .mv (.t 13)⟩,
      ⟨some 4, none, .mv (.t 14)⟩,
      ⟨some 5, none, .mv (.t 15)⟩])
    (.seq (.ops [⟨some 16, none, .mv (.t 3)⟩,
      ⟨some 17, none, .mv (.t 4)⟩,
      ⟨some 18, none, .mv (.t 5)⟩,
      ⟨some 19, none, .call (.k (.fn n_impl_RunFixed [] [])) [.t 16, .t 17, .t 18]⟩,
      ⟨some 6, none, .alloc ty_impl_Schedule [.sn, .sn]⟩,
      ⟨none, none, .st 2 (.t 6) (.t 19)⟩])
    (.seq (.seq (.plan [0, 1, 2, 3] [⟨some 20, none, .ldn 2 (.t 6)⟩,
      ⟨some 21, none, .mv (.t 3)⟩,
      ⟨some 22, none, .mv (.t 4)⟩,
      ⟨some 23, none, .mv (.t 5)⟩]
      (.one 4 ⟨some 24, none, .call (.k (.fn n_spec_RunFixed [] [])) [.t 21, .t 22, .t 23]⟩ [(20, some 2, 6)] []
        []
      (.one 5 ⟨some 25, none, .call (.k (.fn n_laws_sameSchedule [] [])) [.t 20, .t 24]⟩ [] [6]
        [⟨some 26, none, .not (.t 25)⟩]
      .fin)))
    (.cond (.t 26) (.seq (.ops [⟨some 2, none, .mv (.k (.b false))⟩])
    (.ret))
    (.skip)))
    (.seq (.seq (.ops [⟨some 27, none, .mv (.t 3)⟩,
      ⟨some 28, none, .mv (.t 4)⟩,
      ⟨some 29, none, .call (.k (.fn n_spec_OrderValid [] [])) [.t 27, .t 28]⟩,
      ⟨some 30, none, .not (.t 29)⟩,
      ⟨some 31, none, .mv (.t 30)⟩,
      ⟨some 32, (some (31, false)), .mv (.t 3)⟩,
      ⟨some 33, (some (31, false)), .mv (.t 5)⟩,
      ⟨some 34, (some (31, false)), .call (.k (.fn n_spec_JobsLegal [] [])) [.t 32, .t 33]⟩,
      ⟨some 35, (some (31, false)), .not (.t 34)⟩,
      ⟨some 36, none, .pick (.t 31) (.k (.b true)) (.t 35)⟩])
    (.cond (.t 36) (.seq (.ops [⟨some 37, none, .fa 0 (.t 6)⟩,
      ⟨some 38, none, .ld (.t 37)⟩,
      ⟨some 39, none, .len (.t 38)⟩,
      ⟨some 40, none, .bin .eql (.t 39) (.k (.i .i64 0))⟩,
      ⟨some 41, none, .mv (.t 40)⟩,
      ⟨some 42, (some (41, true)), .call (.k (.fn n_laws_alive [] [])) []⟩,
      ⟨some 43, none, .pick (.t 41) (.t 42) (.k (.b false))⟩,
      ⟨some 2, none, .mv (.t 43)⟩])
    (.ret))
    (.skip)))
    (.seq (.ops [⟨some 44, none, .mv (.t 5)⟩,
      ⟨some 45, none, .ldn 2 (.t 6)⟩,
      ⟨some 46, none, .call (.k (.fn n_impl_Missed [] [])) [.t 44, .t 45]⟩,
      ⟨some 47, none, .len (.t 46)⟩,
      ⟨some 48, none, .bin .gtr (.t 47) (.k (.i .i64 0))⟩,
      ⟨some 49, none, .mv (.t 48)⟩,
      ⟨some 50, (some (49, false)), .mv (.t 5)⟩,
      ⟨some 51, (some (49, false)), .mv (.t 3)⟩,
      ⟨some 52, (some (49, false)), .mv (.t 5)⟩,
      ⟨some 53, (some (49, false)), .call (.k (.fn n_impl_RunEdf [] [])) [.t 51, .t 52]⟩,
      ⟨some 54, (some (49, false)), .call (.k (.fn n_impl_Missed [] [])) [.t 50, .t 53]⟩,
      ⟨some 55, (some (49, false)), .len (.t 54)⟩,
      ⟨some 56, (some (49, false)), .bin .eql (.t 55) (.k (.i .i64 0))⟩,
      ⟨some 57, none, .pick (.t 49) (.k (.b true)) (.t 56)⟩,
      ⟨some 2, none, .mv (.t 57)⟩])
    (.ret)))))))
theorem k_laws_FnEdfOptimal : chkF Try.prog Try.f5 58 c_laws_FnEdfOptimal [.t 2] = true := by kernel_rfl
theorem call_laws_FnEdfOptimal {args : List AV} {σ : List AB} {K : AV → List AB → Prop} (hn : args.length ≤ 58) (hw : wpC Try.prog σ.length 58 c_laws_FnEdfOptimal (retP σ.length [.t 2] K) ⟨initT 0 args, σ⟩) : CallWp Try.prog n_laws_FnEdfOptimal args σ K := call_fn mixed Try.func5 k_laws_FnEdfOptimal hn hw
theorem callC_laws_FnEdfOptimal {args : List AV} {σ : List AB} {K : AV → List AB → Prop} (hn : args.length ≤ 58) (hw : Closed σ → args.all (below1 σ.length) = true → wpC Try.prog σ.length 58 c_laws_FnEdfOptimal (retP σ.length [.t 2] K) ⟨initT 0 args, σ⟩) : CallWp Try.prog n_laws_FnEdfOptimal args σ K := call_fnC mixed Try.func5 k_laws_FnEdfOptimal hn hw

-- loop.example/deadlinescheduler/laws.FnFixedSafe
-- region 5: a plan with 1 orders
-- region 13 draws, 28 of 28 first
-- l0_laws_FnFixedSafe: live at the head: 5 6 7 8 62 63 64 65 66 67 68 69 70 71 72 73 74 75 76 77 78 79 80 81
def l0_laws_FnFixedSafe : LC := .seq (.seq (.ops [⟨some 49, none, .mv (.t 8)⟩,
      ⟨some 50, none, .mv (.t 5)⟩,
      ⟨some 51, none, .len (.t 50)⟩,
      ⟨some 52, none, .bin .lss (.t 49) (.t 51)⟩])
    (.cond (.t 52) (.skip)
    (.exit 0)))
    (.seq (.block 1 (.seq (.draw 28 [⟨some 55, none, .fa 1 (.t 6)⟩,
      ⟨some 56, none, .ld (.t 55)⟩,
      ⟨some 57, none, .mv (.t 8)⟩,
      ⟨some 58, none, .ia 1 (.t 56) (.t 57)⟩,
      ⟨some 59, none, .ld (.t 58)⟩,
      ⟨some 60, none, .bin .geq (.t 59) (.k (.i .i64 0))⟩,
      ⟨some 61, none, .mv (.t 60)⟩,
      ⟨some 62, (some (61, true)), .fa 1 (.t 6)⟩,
      ⟨some 63, (some (61, true)), .ld (.t 62)⟩,
      ⟨some 64, (some (61, true)), .mv (.t 8)⟩,
      ⟨some 65, (some (61, true)), .ia 1 (.t 63) (.t 64)⟩,
      ⟨some 66, (some (61, true)), .ld (.t 65)⟩,
      ⟨some 67, (some (61, true)), .mv (.t 5)⟩,
      ⟨some 68, (some (61, true)), .mv (.t 8)⟩,
      ⟨some 69, (some (61, true)), .ia 4 (.t 67) (.t 68)⟩,
      ⟨some 70, (some (61, true)), .fa 1 (.t 69)⟩,
      ⟨some 71, (some (61, true)), .ld (.t 70)⟩,
      ⟨some 72, (some (61, true)), .bin .sub (.t 66) (.t 71)⟩,
      ⟨some 73, (some (61, true)), .mv (.t 7)⟩,
      ⟨some 74, (some (61, true)), .mv (.t 5)⟩,
      ⟨some 75, (some (61, true)), .mv (.t 8)⟩,
      ⟨some 76, (some (61, true)), .ia 4 (.t 74) (.t 75)⟩,
      ⟨some 77, (some (61, true)), .fa 0 (.t 76)⟩,
      ⟨some 78, (some (61, true)), .ld (.t 77)⟩,
      ⟨some 79, (some (61, true)), .ia 1 (.t 73) (.t 78)⟩,
      ⟨some 80, (some (61, true)), .ld (.t 79)⟩,
      ⟨some 81, (some (61, true)), .bin .gtr (.t 72) (.t 80)⟩,
      ⟨some 82, none, .pick (.t 61) (.t 81) (.k (.b false))⟩])
    (.cond (.t 82) (.seq (.ops [⟨some 2, none, .mv (.k (.b false))⟩])
    (.ret))
    (.skip))))
    (.ops [⟨some 53, none, .mv (.t 8)⟩,
      ⟨some 54, none, .bin .add (.t 53) (.k (.i .i64 1))⟩,
      ⟨some 8, none, .mv (.t 54)⟩]))
def c_laws_FnFixedSafe : LC := .seq (.ops [⟨some 2, none, .mv (.k (.b false))⟩])
    (.seq (.seq (.ops [⟨some 9, none, .mv (.t 0)⟩,
      ⟨some 10, none, .len (.t 9)⟩,
      ⟨some 11, none, .bin .gtr (.t 10) (.k (.i .i64 1048576))⟩])
    (.cond (.t 11) (.seq (.ops [⟨some 2, none, .mv (.k (.b true))⟩])
    (.ret))
    (.skip)))
    (.seq (.ops [⟨some 13, none, .mv (.t 0)⟩,
      ⟨some 14, none, .call (.k (.fn n_spec_DrawRunFixed [] [])) [.t 13]⟩,
      ⟨some 12, none, .mv (.t 14)⟩,
      ⟨some 15, none, .ext 0 (.t 12)⟩,
      ⟨some 16, none, .ext 1 (.t 12)⟩,
      ⟨some 17, none, .ext 2 (.t 12)⟩,
      ⟨some 3, none, .mv (.t 15)⟩,
      ⟨some 4, none, .mv (.t 16)⟩,
      ⟨some 5, none, .mv (.t 17)⟩])
    (.seq (.ops [⟨some 18, none, .mv (.t 3)⟩,
      ⟨some 19, none, .mv (.t 4)⟩,
      ⟨some 20, none, .mv (.t 5)⟩,
      ⟨some 21, none, .call (.k (.fn n_impl_RunFixed [] [])) [.t 18, .t 19, .t 20]⟩,
      ⟨some 6, none, .alloc ty_impl_Schedule [.sn, .sn]⟩,
      ⟨none, none, .st 2 (.t 6) (.t 21)⟩])
    (.seq (.seq (.plan [0, 1, 2, 3] [⟨some 22, none, .ldn 2 (.t 6)⟩,
      ⟨some 23, none, .mv (.t 3)⟩,
      ⟨some 24, none, .mv (.t 4)⟩,
      ⟨some 25, none, .mv (.t 5)⟩]
      (.one 4 ⟨some 26, none, .call (.k (.fn n_spec_RunFixed [] [])) [.t 23, .t 24, .t 25]⟩ [(22, some 2, 6)] []
        []
      (.one 5 ⟨some 27, none, .call (.k (.fn n_laws_sameSchedule [] [])) [.t 22, .t 26]⟩ [] [6]
        [⟨some 28, none, .not (.t 27)⟩]
      .fin)))
    (.cond (.t 28) (.seq (.ops [⟨some 2, none, .mv (.k (.b false))⟩])
    (.ret))
    (.skip)))
    (.seq (.seq (.ops [⟨some 29, none, .mv (.t 3)⟩,
      ⟨some 30, none, .mv (.t 4)⟩,
      ⟨some 31, none, .call (.k (.fn n_spec_OrderValid [] [])) [.t 29, .t 30]⟩,
      ⟨some 32, none, .not (.t 31)⟩,
      ⟨some 33, none, .mv (.t 32)⟩,
      ⟨some 34, (some (33, false)), .mv (.t 3)⟩,
      ⟨some 35, (some (33, false)), .mv (.t 5)⟩,
      ⟨some 36, (some (33, false)), .call (.k (.fn n_spec_JobsLegal [] [])) [.t 34, .t 35]⟩,
      ⟨some 37, (some (33, false)), .not (.t 36)⟩,
      ⟨some 38, none, .pick (.t 33) (.k (.b true)) (.t 37)⟩,
      ⟨some 39, none, .mv (.t 38)⟩,
      ⟨some 40, (some (39, false)), .mv (.t 3)⟩,
      ⟨some 41, (some (39, false)), .mv (.t 4)⟩,
      ⟨some 42, (some (39, false)), .call (.k (.fn n_impl_FixedFeasible [] [])) [.t 40, .t 41]⟩,
      ⟨some 43, (some (39, false)), .not (.t 42)⟩,
      ⟨some 44, none, .pick (.t 39) (.k (.b true)) (.t 43)⟩])
    (.cond (.t 44) (.seq (.ops [⟨some 45, none, .call (.k (.fn n_laws_alive [] [])) []⟩,
      ⟨some 2, none, .mv (.t 45)⟩])
    (.ret))
    (.skip)))
    (.seq (.ops [⟨some 46, none, .mv (.t 3)⟩,
      ⟨some 47, none, .mv (.t 4)⟩,
      ⟨some 48, none, .call (.k (.fn n_impl_ResponseTimes [] [])) [.t 46, .t 47]⟩,
      ⟨some 7, none, .mv (.t 48)⟩])
    (.seq (.seq (.ops [⟨some 8, none, .mv (.k (.i .i64 0))⟩])
    (.block 0 (.loop l0_laws_FnFixedSafe)))
    (.seq (.ops [⟨some 83, none, .mv (.t 5)⟩,
      ⟨some 84, none, .ldn 2 (.t 6)⟩,
      ⟨some 85, none, .call (.k (.fn n_impl_Missed [] [])) [.t 83, .t 84]⟩,
      ⟨some 86, none, .len (.t 85)⟩,
      ⟨some 87, none, .bin .eql (.t 86) (.k (.i .i64 0))⟩,
      ⟨some 2, none, .mv (.t 87)⟩])
    (.ret)))))))))
theorem k_laws_FnFixedSafe : chkF Try.prog Try.f6 88 c_laws_FnFixedSafe [.t 2] = true := by kernel_rfl
theorem call_laws_FnFixedSafe {args : List AV} {σ : List AB} {K : AV → List AB → Prop} (hn : args.length ≤ 88) (hw : wpC Try.prog σ.length 88 c_laws_FnFixedSafe (retP σ.length [.t 2] K) ⟨initT 0 args, σ⟩) : CallWp Try.prog n_laws_FnFixedSafe args σ K := call_fn mixed Try.func6 k_laws_FnFixedSafe hn hw
theorem callC_laws_FnFixedSafe {args : List AV} {σ : List AB} {K : AV → List AB → Prop} (hn : args.length ≤ 88) (hw : Closed σ → args.all (below1 σ.length) = true → wpC Try.prog σ.length 88 c_laws_FnFixedSafe (retP σ.length [.t 2] K) ⟨initT 0 args, σ⟩) : CallWp Try.prog n_laws_FnFixedSafe args σ K := call_fnC mixed Try.func6 k_laws_FnFixedSafe hn hw

-- loop.example/deadlinescheduler/laws.FnEdfExact
def c_laws_FnEdfExact : LC := .seq (.ops [⟨some 2, none, .mv (.k (.b false))⟩])
    (.seq (.seq (.ops [⟨some 9, none, .mv (.t 0)⟩,
      ⟨some 10, none, .len (.t 9)⟩,
      ⟨some 11, none, .bin .gtr (.t 10) (.k (.i .i64 1048576))⟩])
    (.cond (.t 11) (.seq (.ops [⟨some 2, none, .mv (.k (.b true))⟩])
    (.ret))
    (.skip)))
    (.seq (.ops [⟨some 12, none, .mv (.t 0)⟩,
      ⟨some 13, none, .call (.k (.fn n_spec_DrawFirstOverload [] [])) [.t 12]⟩,
      ⟨some 3, none, .mv (.t 13)⟩])
    (.seq (.ops [⟨some 14, none, .mv (.t 3)⟩,
      ⟨some 15, none, .call (.k (.fn n_impl_FirstOverload [] [])) [.t 14]⟩,
      ⟨some 4, none, .mv (.t 15)⟩])
    (.seq (.seq (.ops [⟨some 16, none, .mv (.t 4)⟩,
      ⟨some 17, none, .mv (.t 3)⟩,
      ⟨some 18, none, .call (.k (.fn n_spec_FirstOverload [] [])) [.t 17]⟩,
      ⟨some 19, none, .bin .neq (.t 16) (.t 18)⟩])
    (.cond (.t 19) (.seq (.ops [⟨some 2, none, .mv (.k (.b false))⟩])
    (.ret))
    (.skip)))
    (.seq (.seq (.ops [⟨some 20, none, .mv (.t 4)⟩,
      ⟨some 21, none, .bin .lss (.t 20) (.k (.i .i64 0))⟩,
      ⟨some 22, none, .mv (.t 21)⟩,
      ⟨some 23, (some (22, false)), .mv (.t 4)⟩,
      ⟨some 24, (some (22, false)), .bin .gtr (.t 23) (.k (.i .i64 120))⟩,
      ⟨some 25, none, .pick (.t 22) (.k (.b true)) (.t 24)⟩])
    (.cond (.t 25) (.seq (.ops [⟨some 26, none, .call (.k (.fn n_laws_alive [] [])) []⟩,
      ⟨some 2, none, .mv (.t 26)⟩])
    (.ret))
    (.skip)))
    (.seq (.ops [⟨some 27, none, .mv (.t 3)⟩,
      ⟨some 28, none, .mv (.t 4)⟩,
      ⟨some 29, none, .call (.k (.fn n_impl_Synchronous [] [])) [.t 27, .t 28]⟩,
      ⟨some 5, none, .mv (.t 29)⟩])
    (.seq (.seq (.ops [⟨some 30, none, .mv (.t 5)⟩,
      ⟨some 31, none, .len (.t 30)⟩,
      ⟨some 32, none, .bin .eql (.t 31) (.k (.i .i64 60))⟩])
    (.cond (.t 32) (.seq (.ops [⟨some 33, none, .call (.k (.fn n_laws_alive [] [])) []⟩,
      ⟨some 2, none, .mv (.t 33)⟩])
    (.ret))
    (.skip)))
    (.seq (.ops [⟨some 34, none, .mv (.t 5)⟩,
      ⟨some 35, none, .mv (.t 3)⟩,
      ⟨some 36, none, .mv (.t 5)⟩,
      ⟨some 37, none, .call (.k (.fn n_impl_RunEdf [] [])) [.t 35, .t 36]⟩,
      ⟨some 38, none, .call (.k (.fn n_impl_Missed [] [])) [.t 34, .t 37]⟩,
      ⟨some 6, none, .mv (.t 38)⟩])
    (.seq (.ops [⟨some 39, none, .mv (.t 3)⟩,
      ⟨some 40, none, .call (.k (.fn n_impl_DeadlineMonotonic [] [])) [.t 39]⟩,
      ⟨some 7, none, .mv (.t 40)⟩])
    (.seq (.ops [⟨some 41, none, .mv (.t 5)⟩,
      ⟨some 42, none, .mv (.t 3)⟩,
      ⟨some 43, none, .mv (.t 7)⟩,
      ⟨some 44, none, .mv (.t 5)⟩,
      ⟨some 45, none, .call (.k (.fn n_impl_RunFixed [] [])) [.t 42, .t 43, .t 44]⟩,
      ⟨some 46, none, .call (.k (.fn n_impl_Missed [] [])) [.t 41, .t 45]⟩,
      ⟨some 8, none, .mv (.t 46)⟩])
    (.seq (.ops [⟨some 47, none, .mv (.t 6)⟩,
      ⟨some 48, none, .len (.t 47)⟩,
      ⟨some 49, none, .bin .gtr (.t 48) (.k (.i .i64 0))⟩,
      ⟨some 50, none, .mv (.t 49)⟩,
      ⟨some 51, (some (50, true)), .mv (.t 8)⟩,
      ⟨some 52, (some (50, true)), .len (.t 51)⟩,
      ⟨some 53, (some (50, true)), .bin .gtr (.t 52) (.k (.i .i64 0))⟩,
      ⟨some 54, none, .pick (.t 50) (.t 53) (.k (.b false))⟩,
      ⟨some 55, none, .mv (.t 54)⟩,
      ⟨some 56, (some (55, true)), .mv (.t 3)⟩,
      ⟨some 57, (some (55, true)), .mv (.t 5)⟩,
      ⟨some 58, (some (55, true)), .call (.k (.fn n_impl_JobsLegal [] [])) [.t 56, .t 57]⟩,
      ⟨some 59, none, .pick (.t 55) (.t 58) (.k (.b false))⟩,
      ⟨some 2, none, .mv (.t 59)⟩])
    (.ret))))))))))))
theorem k_laws_FnEdfExact : chkF Try.prog Try.f7 60 c_laws_FnEdfExact [.t 2] = true := by kernel_rfl
theorem call_laws_FnEdfExact {args : List AV} {σ : List AB} {K : AV → List AB → Prop} (hn : args.length ≤ 60) (hw : wpC Try.prog σ.length 60 c_laws_FnEdfExact (retP σ.length [.t 2] K) ⟨initT 0 args, σ⟩) : CallWp Try.prog n_laws_FnEdfExact args σ K := call_fn mixed Try.func7 k_laws_FnEdfExact hn hw
theorem callC_laws_FnEdfExact {args : List AV} {σ : List AB} {K : AV → List AB → Prop} (hn : args.length ≤ 60) (hw : Closed σ → args.all (below1 σ.length) = true → wpC Try.prog σ.length 60 c_laws_FnEdfExact (retP σ.length [.t 2] K) ⟨initT 0 args, σ⟩) : CallWp Try.prog n_laws_FnEdfExact args σ K := call_fnC mixed Try.func7 k_laws_FnEdfExact hn hw

-- loop.example/deadlinescheduler/laws.FnResponseExact
-- region 16 draws, 11 of 12 first
-- l0_laws_FnResponseExact: live at the head: 5 6 7 8 74 75 76 77 78 79 80 81 82 83 95 96 97 98 99 100 101 102 103 104
def l0_laws_FnResponseExact : LC := .seq (.seq (.ops [⟨some 50, none, .mv (.t 8)⟩,
      ⟨some 51, none, .mv (.t 6)⟩,
      ⟨some 52, none, .len (.t 51)⟩,
      ⟨some 53, none, .bin .lss (.t 50) (.t 52)⟩])
    (.cond (.t 53) (.skip)
    (.exit 0)))
    (.seq (.block 1 (.seq (.draw 11 [⟨some 56, none, .fa 1 (.t 7)⟩,
      ⟨some 57, none, .ld (.t 56)⟩,
      ⟨some 58, none, .mv (.t 8)⟩,
      ⟨some 59, none, .ia 1 (.t 57) (.t 58)⟩,
      ⟨some 60, none, .ld (.t 59)⟩,
      ⟨some 61, none, .mv (.t 6)⟩,
      ⟨some 62, none, .mv (.t 8)⟩,
      ⟨some 63, none, .ia 4 (.t 61) (.t 62)⟩,
      ⟨some 64, none, .fa 1 (.t 63)⟩,
      ⟨some 65, none, .ld (.t 64)⟩,
      ⟨some 66, none, .bin .sub (.t 60) (.t 65)⟩,
      ⟨some 9, none, .mv (.t 66)⟩])
    (.seq (.seq (.ops [⟨some 67, none, .fa 1 (.t 7)⟩,
      ⟨some 68, none, .ld (.t 67)⟩,
      ⟨some 69, none, .mv (.t 8)⟩,
      ⟨some 70, none, .ia 1 (.t 68) (.t 69)⟩,
      ⟨some 71, none, .ld (.t 70)⟩,
      ⟨some 72, none, .bin .lss (.t 71) (.k (.i .i64 0))⟩,
      ⟨some 73, none, .mv (.t 72)⟩,
      ⟨some 74, (some (73, false)), .mv (.t 9)⟩,
      ⟨some 75, (some (73, false)), .mv (.t 5)⟩,
      ⟨some 76, (some (73, false)), .mv (.t 6)⟩,
      ⟨some 77, (some (73, false)), .mv (.t 8)⟩,
      ⟨some 78, (some (73, false)), .ia 4 (.t 76) (.t 77)⟩,
      ⟨some 79, (some (73, false)), .fa 0 (.t 78)⟩,
      ⟨some 80, (some (73, false)), .ld (.t 79)⟩,
      ⟨some 81, (some (73, false)), .ia 1 (.t 75) (.t 80)⟩,
      ⟨some 82, (some (73, false)), .ld (.t 81)⟩,
      ⟨some 83, (some (73, false)), .bin .gtr (.t 74) (.t 82)⟩,
      ⟨some 84, none, .pick (.t 73) (.k (.b true)) (.t 83)⟩])
    (.cond (.t 84) (.seq (.ops [⟨some 85, none, .mv (.t 6)⟩,
      ⟨some 86, none, .len (.t 85)⟩,
      ⟨some 87, none, .bin .eql (.t 86) (.k (.i .i64 60))⟩,
      ⟨some 2, none, .mv (.t 87)⟩])
    (.ret))
    (.skip)))
    (.seq (.ops [⟨some 88, none, .mv (.t 6)⟩,
      ⟨some 89, none, .mv (.t 8)⟩,
      ⟨some 90, none, .ia 4 (.t 88) (.t 89)⟩,
      ⟨some 91, none, .fa 1 (.t 90)⟩,
      ⟨some 92, none, .ld (.t 91)⟩,
      ⟨some 93, none, .bin .eql (.t 92) (.k (.i .i64 0))⟩,
      ⟨some 94, none, .mv (.t 93)⟩,
      ⟨some 95, (some (94, true)), .mv (.t 9)⟩,
      ⟨some 96, (some (94, true)), .mv (.t 5)⟩,
      ⟨some 97, (some (94, true)), .mv (.t 6)⟩,
      ⟨some 98, (some (94, true)), .mv (.t 8)⟩,
      ⟨some 99, (some (94, true)), .ia 4 (.t 97) (.t 98)⟩,
      ⟨some 100, (some (94, true)), .fa 0 (.t 99)⟩,
      ⟨some 101, (some (94, true)), .ld (.t 100)⟩,
      ⟨some 102, (some (94, true)), .ia 1 (.t 96) (.t 101)⟩,
      ⟨some 103, (some (94, true)), .ld (.t 102)⟩,
      ⟨some 104, (some (94, true)), .bin .neq (.t 95) (.t 103)⟩,
      ⟨some 105, none, .pick (.t 94) (.t 104) (.k (.b false))⟩])
    (.cond (.t 105) (.seq (.ops [⟨some 2, none, .mv (.k (.b false))⟩])
    (.ret))
    (.skip))))))
    (.ops [⟨some 54, none, .mv (.t 8)⟩,
      ⟨some 55, none, .bin .add (.t 54) (.k (.i .i64 1))⟩,
      ⟨some 8, none, .mv (.t 55)⟩]))
def c_laws_FnResponseExact : LC := .seq (.ops [⟨some 2, none, .mv (.k (.b false))⟩])
    (.seq (.seq (.ops [⟨some 10, none, .mv (.t 0)⟩,
      ⟨some 11, none, .len (.t 10)⟩,
      ⟨some 12, none, .bin .gtr (.t 11) (.k (.i .i64 1048576))⟩])
    (.cond (.t 12) (.seq (.ops [⟨some 2, none, .mv (.k (.b true))⟩])
    (.ret))
    (.skip)))
    (.seq (.ops [⟨some 14, none, .mv (.t 0)⟩,
      ⟨some 15, none, .call (.k (.fn n_spec_DrawResponseTimes [] [])) [.t 14]⟩,
      ⟨some 13, none, .mv (.t 15)⟩,
      ⟨some 16, none, .ext 0 (.t 13)⟩,
      ⟨some 17, none, .ext 1 (.t 13)⟩,
      ⟨some 3, none, .mv (.t 16)⟩,
      ⟨some 4, none, .mv (.t 17)⟩])
    (.seq (.ops [⟨some 18, none, .mv (.t 3)⟩,
      ⟨some 19, none, .mv (.t 4)⟩,
      ⟨some 20, none, .call (.k (.fn n_impl_ResponseTimes [] [])) [.t 18, .t 19]⟩,
      ⟨some 5, none, .mv (.t 20)⟩])
    (.seq (.seq (.ops [⟨some 21, none, .mv (.t 5)⟩,
      ⟨some 22, none, .mv (.t 3)⟩,
      ⟨some 23, none, .mv (.t 4)⟩,
      ⟨some 24, none, .call (.k (.fn n_spec_ResponseTimes [] [])) [.t 22, .t 23]⟩,
      ⟨some 25, none, .call (.k (.fn n_laws_sameInts [] [])) [.t 21, .t 24]⟩,
      ⟨some 26, none, .not (.t 25)⟩])
    (.cond (.t 26) (.seq (.ops [⟨some 2, none, .mv (.k (.b false))⟩])
    (.ret))
    (.skip)))
    (.seq (.seq (.ops [⟨some 27, none, .mv (.t 3)⟩,
      ⟨some 28, none, .mv (.t 4)⟩,
      ⟨some 29, none, .call (.k (.fn n_spec_OrderValid [] [])) [.t 27, .t 28]⟩,
      ⟨some 30, none, .not (.t 29)⟩,
      ⟨some 31, none, .mv (.t 30)⟩,
      ⟨some 32, (some (31, false)), .mv (.t 3)⟩,
      ⟨some 33, (some (31, false)), .mv (.t 4)⟩,
      ⟨some 34, (some (31, false)), .call (.k (.fn n_impl_FixedFeasible [] [])) [.t 32, .t 33]⟩,
      ⟨some 35, (some (31, false)), .not (.t 34)⟩,
      ⟨some 36, none, .pick (.t 31) (.k (.b true)) (.t 35)⟩])
    (.cond (.t 36) (.seq (.ops [⟨some 37, none, .call (.k (.fn n_laws_alive [] [])) []⟩,
      ⟨some 2, none, .mv (.t 37)⟩])
    (.ret))
    (.skip)))
    (.seq (.ops [⟨some 38, none, .mv (.t 3)⟩,
      ⟨some 39, none, .call (.k (.fn n_impl_Synchronous [] [])) [.t 38, .k (.i .i64 60)]⟩,
      ⟨some 6, none, .mv (.t 39)⟩])
    (.seq (.ops [⟨some 40, none, .mv (.t 3)⟩,
      ⟨some 41, none, .mv (.t 4)⟩,
      ⟨some 42, none, .mv (.t 6)⟩,
      ⟨some 43, none, .call (.k (.fn n_impl_RunFixed [] [])) [.t 40, .t 41, .t 42]⟩,
      ⟨some 7, none, .alloc ty_impl_Schedule [.sn, .sn]⟩,
      ⟨none, none, .st 2 (.t 7) (.t 43)⟩])
    (.seq (.seq (.ops [⟨some 44, none, .fa 1 (.t 7)⟩,
      ⟨some 45, none, .ld (.t 44)⟩,
      ⟨some 46, none, .len (.t 45)⟩,
      ⟨some 47, none, .mv (.t 6)⟩,
      ⟨some 48, none, .len (.t 47)⟩,
      ⟨some 49, none, .bin .neq (.t 46) (.t 48)⟩])
    (.cond (.t 49) (.seq (.ops [⟨some 2, none, .mv (.k (.b false))⟩])
    (.ret))
    (.skip)))
    (.seq (.seq (.ops [⟨some 8, none, .mv (.k (.i .i64 0))⟩])
    (.block 0 (.loop l0_laws_FnResponseExact)))
    (.seq (.ops [⟨some 2, none, .mv (.k (.b true))⟩])
    (.ret)))))))))))
theorem k_laws_FnResponseExact : chkF Try.prog Try.f8 106 c_laws_FnResponseExact [.t 2] = true := by kernel_rfl
theorem call_laws_FnResponseExact {args : List AV} {σ : List AB} {K : AV → List AB → Prop} (hn : args.length ≤ 106) (hw : wpC Try.prog σ.length 106 c_laws_FnResponseExact (retP σ.length [.t 2] K) ⟨initT 0 args, σ⟩) : CallWp Try.prog n_laws_FnResponseExact args σ K := call_fn mixed Try.func8 k_laws_FnResponseExact hn hw
theorem callC_laws_FnResponseExact {args : List AV} {σ : List AB} {K : AV → List AB → Prop} (hn : args.length ≤ 106) (hw : Closed σ → args.all (below1 σ.length) = true → wpC Try.prog σ.length 106 c_laws_FnResponseExact (retP σ.length [.t 2] K) ⟨initT 0 args, σ⟩) : CallWp Try.prog n_laws_FnResponseExact args σ K := call_fnC mixed Try.func8 k_laws_FnResponseExact hn hw

-- loop.example/deadlinescheduler/laws.FnMonotonic
-- region 12 draws, 18 of 18 first
-- l0_laws_FnMonotonic: live at the head: 3 4 5 62 63 64 65 66
def l0_laws_FnMonotonic : LC := .seq (.seq (.ops [⟨some 29, none, .mv (.t 5)⟩,
      ⟨some 30, none, .mv (.t 4)⟩,
      ⟨some 31, none, .len (.t 30)⟩,
      ⟨some 32, none, .bin .lss (.t 29) (.t 31)⟩])
    (.cond (.t 32) (.skip)
    (.exit 0)))
    (.seq (.block 1 (.seq (.draw 18 [⟨some 35, none, .mv (.t 3)⟩,
      ⟨some 36, none, .mv (.t 4)⟩,
      ⟨some 37, none, .mv (.t 5)⟩,
      ⟨some 38, none, .bin .sub (.t 37) (.k (.i .i64 1))⟩,
      ⟨some 39, none, .ia 1 (.t 36) (.t 38)⟩,
      ⟨some 40, none, .ld (.t 39)⟩,
      ⟨some 41, none, .ia 3 (.t 35) (.t 40)⟩,
      ⟨some 42, none, .fa 1 (.t 41)⟩,
      ⟨some 43, none, .ld (.t 42)⟩,
      ⟨some 44, none, .mv (.t 3)⟩,
      ⟨some 45, none, .mv (.t 4)⟩,
      ⟨some 46, none, .mv (.t 5)⟩,
      ⟨some 47, none, .ia 1 (.t 45) (.t 46)⟩,
      ⟨some 48, none, .ld (.t 47)⟩,
      ⟨some 49, none, .ia 3 (.t 44) (.t 48)⟩,
      ⟨some 50, none, .fa 1 (.t 49)⟩,
      ⟨some 51, none, .ld (.t 50)⟩,
      ⟨some 52, none, .bin .gtr (.t 43) (.t 51)⟩])
    (.cond (.t 52) (.seq (.ops [⟨some 2, none, .mv (.k (.b false))⟩])
    (.ret))
    (.skip))))
    (.ops [⟨some 33, none, .mv (.t 5)⟩,
      ⟨some 34, none, .bin .add (.t 33) (.k (.i .i64 1))⟩,
      ⟨some 5, none, .mv (.t 34)⟩]))
def c_laws_FnMonotonic : LC := .seq (.ops [⟨some 2, none, .mv (.k (.b false))⟩])
    (.seq (.seq (.ops [⟨some 8, none, .mv (.t 0)⟩,
      ⟨some 9, none, .len (.t 8)⟩,
      ⟨some 10, none, .bin .gtr (.t 9) (.k (.i .i64 1048576))⟩])
    (.cond (.t 10) (.seq (.ops [⟨some 2, none, .mv (.k (.b true))⟩])
    (.ret))
    (.skip)))
    (.seq (.ops [⟨some 11, none, .mv (.t 0)⟩,
      ⟨some 12, none, .call (.k (.fn n_spec_DrawDeadlineMonotonic [] [])) [.t 11]⟩,
      ⟨some 3, none, .mv (.t 12)⟩])
    (.seq (.ops [⟨some 13, none, .mv (.t 3)⟩,
      ⟨some 14, none, .call (.k (.fn n_impl_DeadlineMonotonic [] [])) [.t 13]⟩,
      ⟨some 4, none, .mv (.t 14)⟩])
    (.seq (.seq (.ops [⟨some 15, none, .mv (.t 4)⟩,
      ⟨some 16, none, .mv (.t 3)⟩,
      ⟨some 17, none, .call (.k (.fn n_spec_DeadlineMonotonic [] [])) [.t 16]⟩,
      ⟨some 18, none, .call (.k (.fn n_laws_sameInts [] [])) [.t 15, .t 17]⟩,
      ⟨some 19, none, .not (.t 18)⟩])
    (.cond (.t 19) (.seq (.ops [⟨some 2, none, .mv (.k (.b false))⟩])
    (.ret))
    (.skip)))
    (.seq (.seq (.ops [⟨some 20, none, .mv (.t 3)⟩,
      ⟨some 21, none, .call (.k (.fn n_spec_SetValid [] [])) [.t 20]⟩,
      ⟨some 22, none, .not (.t 21)⟩])
    (.cond (.t 22) (.seq (.ops [⟨some 23, none, .mv (.t 4)⟩,
      ⟨some 24, none, .len (.t 23)⟩,
      ⟨some 25, none, .bin .eql (.t 24) (.k (.i .i64 0))⟩,
      ⟨some 26, none, .mv (.t 25)⟩,
      ⟨some 27, (some (26, true)), .call (.k (.fn n_laws_alive [] [])) []⟩,
      ⟨some 28, none, .pick (.t 26) (.t 27) (.k (.b false))⟩,
      ⟨some 2, none, .mv (.t 28)⟩])
    (.ret))
    (.skip)))
    (.seq (.seq (.ops [⟨some 5, none, .mv (.k (.i .i64 1))⟩])
    (.block 0 (.loop l0_laws_FnMonotonic)))
    (.seq (.ops [⟨some 54, none, .mv (.t 3)⟩,
      ⟨some 55, none, .call (.k (.fn n_impl_AssignPriorities [] [])) [.t 54]⟩,
      ⟨some 53, none, .mv (.t 55)⟩,
      ⟨some 56, none, .ext 0 (.t 53)⟩,
      ⟨some 57, none, .ext 1 (.t 53)⟩,
      ⟨some 6, none, .mv (.t 56)⟩,
      ⟨some 7, none, .mv (.t 57)⟩])
    (.seq (.ops [⟨some 58, none, .mv (.t 3)⟩,
      ⟨some 59, none, .mv (.t 4)⟩,
      ⟨some 60, none, .call (.k (.fn n_impl_OrderValid [] [])) [.t 58, .t 59]⟩,
      ⟨some 61, none, .mv (.t 60)⟩,
      ⟨some 62, (some (61, true)), .mv (.t 3)⟩,
      ⟨some 63, (some (61, true)), .mv (.t 4)⟩,
      ⟨some 64, (some (61, true)), .call (.k (.fn n_impl_FixedFeasible [] [])) [.t 62, .t 63]⟩,
      ⟨some 65, (some (61, true)), .mv (.t 7)⟩,
      ⟨some 66, (some (61, true)), .beq false (.t 64) (.t 65)⟩,
      ⟨some 67, none, .pick (.t 61) (.t 66) (.k (.b false))⟩,
      ⟨some 2, none, .mv (.t 67)⟩])
    (.ret)))))))))
theorem k_laws_FnMonotonic : chkF Try.prog Try.f9 68 c_laws_FnMonotonic [.t 2] = true := by kernel_rfl
theorem call_laws_FnMonotonic {args : List AV} {σ : List AB} {K : AV → List AB → Prop} (hn : args.length ≤ 68) (hw : wpC Try.prog σ.length 68 c_laws_FnMonotonic (retP σ.length [.t 2] K) ⟨initT 0 args, σ⟩) : CallWp Try.prog n_laws_FnMonotonic args σ K := call_fn mixed Try.func9 k_laws_FnMonotonic hn hw
theorem callC_laws_FnMonotonic {args : List AV} {σ : List AB} {K : AV → List AB → Prop} (hn : args.length ≤ 68) (hw : Closed σ → args.all (below1 σ.length) = true → wpC Try.prog σ.length 68 c_laws_FnMonotonic (retP σ.length [.t 2] K) ⟨initT 0 args, σ⟩) : CallWp Try.prog n_laws_FnMonotonic args σ K := call_fnC mixed Try.func9 k_laws_FnMonotonic hn hw

-- loop.example/deadlinescheduler/laws.FnCheckLength
def c_laws_FnCheckLength : LC := .seq (.ops [⟨some 2, none, .mv (.k (.b false))⟩])
    (.seq (.seq (.ops [⟨some 12, none, .mv (.t 0)⟩,
      ⟨some 13, none, .len (.t 12)⟩,
      ⟨some 14, none, .bin .gtr (.t 13) (.k (.i .i64 1048576))⟩])
    (.cond (.t 14) (.seq (.ops [⟨some 2, none, .mv (.k (.b true))⟩])
    (.ret))
    (.skip)))
    (.seq (.ops [⟨some 16, none, .mv (.t 0)⟩,
      ⟨some 17, none, .call (.k (.fn n_spec_DrawCheckSchedule [] [])) [.t 16]⟩,
      ⟨some 15, none, .mv (.t 17)⟩,
      ⟨some 18, none, .ext 0 (.t 15)⟩,
      ⟨some 19, none, .ext 1 (.t 15)⟩,
      ⟨some 20, none, .ext 2 (.t 15)⟩,
      ⟨some 3, none, .mv (.t 18)⟩,
      ⟨some 4, none, .mv (.t 19)⟩,
      ⟨some 5, none, .mv (.t 20)⟩])
    (.seq (.ops [⟨some 22, none, .mv (.t 3)⟩,
      ⟨some 23, none, .mv (.t 4)⟩,
      ⟨some 24, none, .mv (.t 5)⟩,
      ⟨some 25, none, .call (.k (.fn n_impl_CheckSchedule [] [])) [.t 22, .t 23, .t 24]⟩,
      ⟨some 21, none, .mv (.t 25)⟩,
      ⟨some 26, none, .ext 0 (.t 21)⟩,
      ⟨some 27, none, .ext 1 (.t 21)⟩,
      ⟨some 6, none, .mv (.t 26)⟩,
      ⟨some 7, none, .mv (.t 27)⟩])
    (.seq (.ops [⟨some 29, none, .mv (.t 3)⟩,
      ⟨some 30, none, .mv (.t 4)⟩,
      ⟨some 31, none, .mv (.t 5)⟩,
      ⟨some 32, none, .call (.k (.fn n_spec_CheckSchedule [] [])) [.t 29, .t 30, .t 31]⟩,
      ⟨some 28, none, .mv (.t 32)⟩,
      ⟨some 33, none, .ext 0 (.t 28)⟩,
      ⟨some 34, none, .ext 1 (.t 28)⟩,
      ⟨some 8, none, .mv (.t 33)⟩,
      ⟨some 9, none, .mv (.t 34)⟩])
    (.seq (.seq (.ops [⟨some 35, none, .mv (.t 6)⟩,
      ⟨some 36, none, .mv (.t 8)⟩,
      ⟨some 37, none, .bin .neq (.t 35) (.t 36)⟩])
    (.cond (.t 37) (.seq (.ops [⟨some 2, none, .mv (.k (.b false))⟩])
    (.ret))
    (.skip)))
    (.seq (.seq (.ops [⟨some 38, none, .mv (.t 3)⟩,
      ⟨some 39, none, .mv (.t 4)⟩,
      ⟨some 40, none, .call (.k (.fn n_spec_JobsLegal [] [])) [.t 38, .t 39]⟩,
      ⟨some 41, none, .not (.t 40)⟩])
    (.cond (.t 41) (.seq (.ops [⟨some 42, none, .mv (.t 6)⟩,
      ⟨some 43, none, .bin .eql (.t 42) (.k (.i .i64 1))⟩,
      ⟨some 44, none, .mv (.t 43)⟩,
      ⟨some 45, (some (44, true)), .call (.k (.fn n_laws_alive [] [])) []⟩,
      ⟨some 46, none, .pick (.t 44) (.t 45) (.k (.b false))⟩,
      ⟨some 2, none, .mv (.t 46)⟩])
    (.ret))
    (.skip)))
    (.seq (.seq (.ops [⟨some 47, none, .mv (.t 5)⟩,
      ⟨some 48, none, .len (.t 47)⟩,
      ⟨some 49, none, .bin .neq (.t 48) (.k (.i .i64 120))⟩])
    (.cond (.t 49) (.seq (.ops [⟨some 50, none, .mv (.t 6)⟩,
      ⟨some 51, none, .bin .eql (.t 50) (.k (.i .i64 2))⟩,
      ⟨some 2, none, .mv (.t 51)⟩])
    (.ret))
    (.skip)))
    (.seq (.ops [⟨some 53, none, .mv (.t 3)⟩,
      ⟨some 54, none, .mv (.t 4)⟩,
      ⟨some 55, none, .mv (.t 5)⟩,
      ⟨some 56, none, .slc 1 (.t 55) none (some (.k (.i .i64 119))) none⟩,
      ⟨some 57, none, .call (.k (.fn n_impl_CheckSchedule [] [])) [.t 53, .t 54, .t 56]⟩,
      ⟨some 52, none, .mv (.t 57)⟩,
      ⟨some 58, none, .ext 0 (.t 52)⟩,
      ⟨some 59, none, .ext 1 (.t 52)⟩,
      ⟨some 10, none, .mv (.t 58)⟩,
      ⟨some 11, none, .mv (.t 59)⟩])
    (.seq (.ops [⟨some 60, none, .mv (.t 10)⟩,
      ⟨some 61, none, .bin .eql (.t 60) (.k (.i .i64 2))⟩,
      ⟨some 62, none, .mv (.t 61)⟩,
      ⟨some 63, (some (62, true)), .mv (.t 11)⟩,
      ⟨some 64, (some (62, true)), .bin .eql (.t 63) (.k (.i .i64 0))⟩,
      ⟨some 65, none, .pick (.t 62) (.t 64) (.k (.b false))⟩,
      ⟨some 2, none, .mv (.t 65)⟩])
    (.ret))))))))))
theorem k_laws_FnCheckLength : chkF Try.prog Try.f10 66 c_laws_FnCheckLength [.t 2] = true := by kernel_rfl
theorem call_laws_FnCheckLength {args : List AV} {σ : List AB} {K : AV → List AB → Prop} (hn : args.length ≤ 66) (hw : wpC Try.prog σ.length 66 c_laws_FnCheckLength (retP σ.length [.t 2] K) ⟨initT 0 args, σ⟩) : CallWp Try.prog n_laws_FnCheckLength args σ K := call_fn mixed Try.func10 k_laws_FnCheckLength hn hw
theorem callC_laws_FnCheckLength {args : List AV} {σ : List AB} {K : AV → List AB → Prop} (hn : args.length ≤ 66) (hw : Closed σ → args.all (below1 σ.length) = true → wpC Try.prog σ.length 66 c_laws_FnCheckLength (retP σ.length [.t 2] K) ⟨initT 0 args, σ⟩) : CallWp Try.prog n_laws_FnCheckLength args σ K := call_fnC mixed Try.func10 k_laws_FnCheckLength hn hw

-- loop.example/deadlinescheduler/laws.FnCheckSound
-- region 13 draws, 33 of 33 first
-- l0_laws_FnCheckSound: live at the head: 4 5 7 10 74 75 76 77 78 79 80 81 82 83 84 85 86 87 90 91 92 93 94 95 96 97 98 103 104 105
def l0_laws_FnCheckSound : LC := .seq (.seq (.ops [⟨some 61, none, .mv (.t 10)⟩,
      ⟨some 62, none, .mv (.t 4)⟩,
      ⟨some 63, none, .len (.t 62)⟩,
      ⟨some 64, none, .bin .lss (.t 61) (.t 63)⟩])
    (.cond (.t 64) (.skip)
    (.exit 0)))
    (.seq (.block 1 (.seq (.draw 33 [⟨some 67, none, .mv (.t 4)⟩,
      ⟨some 68, none, .mv (.t 10)⟩,
      ⟨some 69, none, .ia 4 (.t 67) (.t 68)⟩,
      ⟨some 70, none, .fa 2 (.t 69)⟩,
      ⟨some 71, none, .ld (.t 70)⟩,
      ⟨some 72, none, .bin .leq (.t 71) (.k (.i .i64 120))⟩,
      ⟨some 73, none, .mv (.t 72)⟩,
      ⟨some 74, (some (73, true)), .mv (.t 5)⟩,
      ⟨some 75, (some (73, true)), .mv (.t 10)⟩,
      ⟨some 76, (some (73, true)), .mv (.t 4)⟩,
      ⟨some 77, (some (73, true)), .mv (.t 10)⟩,
      ⟨some 78, (some (73, true)), .ia 4 (.t 76) (.t 77)⟩,
      ⟨some 79, (some (73, true)), .fa 2 (.t 78)⟩,
      ⟨some 80, (some (73, true)), .ld (.t 79)⟩,
      ⟨some 81, (some (73, true)), .call (.k (.fn n_laws_executed [] [])) [.t 74, .t 75, .t 80]⟩,
      ⟨some 82, (some (73, true)), .mv (.t 4)⟩,
      ⟨some 83, (some (73, true)), .mv (.t 10)⟩,
      ⟨some 84, (some (73, true)), .ia 4 (.t 82) (.t 83)⟩,
      ⟨some 85, (some (73, true)), .fa 3 (.t 84)⟩,
      ⟨some 86, (some (73, true)), .ld (.t 85)⟩,
      ⟨some 87, (some (73, true)), .bin .neq (.t 81) (.t 86)⟩,
      ⟨some 88, none, .pick (.t 73) (.t 87) (.k (.b false))⟩,
      ⟨some 89, none, .mv (.t 88)⟩,
      ⟨some 90, (some (89, false)), .mv (.t 5)⟩,
      ⟨some 91, (some (89, false)), .mv (.t 10)⟩,
      ⟨some 92, (some (89, false)), .mv (.t 4)⟩,
      ⟨some 93, (some (89, false)), .mv (.t 10)⟩,
      ⟨some 94, (some (89, false)), .ia 4 (.t 92) (.t 93)⟩,
      ⟨some 95, (some (89, false)), .fa 1 (.t 94)⟩,
      ⟨some 96, (some (89, false)), .ld (.t 95)⟩,
      ⟨some 97, (some (89, false)), .call (.k (.fn n_laws_executed [] [])) [.t 90, .t 91, .t 96]⟩,
      ⟨some 98, (some (89, false)), .bin .neq (.t 97) (.k (.i .i64 0))⟩,
      ⟨some 99, none, .pick (.t 89) (.k (.b true)) (.t 98)⟩])
    (.cond (.t 99) (.seq (.ops [⟨some 2, none, .mv (.k (.b false))⟩])
    (.ret))
    (.skip))))
    (.ops [⟨some 65, none, .mv (.t 10)⟩,
      ⟨some 66, none, .bin .add (.t 65) (.k (.i .i64 1))⟩,
      ⟨some 10, none, .mv (.t 66)⟩]))
def c_laws_FnCheckSound : LC := .seq (.ops [⟨some 2, none, .mv (.k (.b false))⟩])
    (.seq (.seq (.ops [⟨some 11, none, .mv (.t 0)⟩,
      ⟨some 12, none, .len (.t 11)⟩,
      ⟨some 13, none, .bin .gtr (.t 12) (.k (.i .i64 1048576))⟩])
    (.cond (.t 13) (.seq (.ops [⟨some 2, none, .mv (.k (.b true))⟩])
    (.ret))
    (.skip)))
    (.seq (.ops [⟨some 15, none, .mv (.t 0)⟩,
      ⟨some 16, none, .call (.k (.fn n_spec_DrawCheckSchedule [] [])) [.t 15]⟩,
      ⟨some 14, none, .mv (.t 16)⟩,
      ⟨some 17, none, .ext 0 (.t 14)⟩,
      ⟨some 18, none, .ext 1 (.t 14)⟩,
      ⟨some 19, none, .ext 2 (.t 14)⟩,
      ⟨some 3, none, .mv (.t 17)⟩,
      ⟨some 4, none, .mv (.t 18)⟩,
      ⟨some 5, none, .mv (.t 19)⟩])
    (.seq (.ops [⟨some 21, none, .mv (.t 3)⟩,
      ⟨some 22, none, .mv (.t 4)⟩,
      ⟨some 23, none, .mv (.t 5)⟩,
      ⟨some 24, none, .call (.k (.fn n_impl_CheckSchedule [] [])) [.t 21, .t 22, .t 23]⟩,
      ⟨some 20, none, .mv (.t 24)⟩,
      ⟨some 25, none, .ext 0 (.t 20)⟩,
      ⟨some 26, none, .ext 1 (.t 20)⟩,
      ⟨some 6, none, .mv (.t 25)⟩,
      ⟨some 7, none, .mv (.t 26)⟩])
    (.seq (.ops [⟨some 28, none, .mv (.t 3)⟩,
      ⟨some 29, none, .mv (.t 4)⟩,
      ⟨some 30, none, .mv (.t 5)⟩,
      ⟨some 31, none, .call (.k (.fn n_spec_CheckSchedule [] [])) [.t 28, .t 29, .t 30]⟩,
      ⟨some 27, none, .mv (.t 31)⟩,
      ⟨some 32, none, .ext 0 (.t 27)⟩,
      ⟨some 33, none, .ext 1 (.t 27)⟩,
      ⟨some 8, none, .mv (.t 32)⟩,
      ⟨some 9, none, .mv (.t 33)⟩])
    (.seq (.seq (.ops [⟨some 34, none, .mv (.t 6)⟩,
      ⟨some 35, none, .mv (.t 8)⟩,
      ⟨some 36, none, .bin .neq (.t 34) (.t 35)⟩,
      ⟨some 37, none, .mv (.t 36)⟩,
      ⟨some 38, (some (37, false)), .mv (.t 7)⟩,
      ⟨some 39, (some (37, false)), .mv (.t 9)⟩,
      ⟨some 40, (some (37, false)), .bin .neq (.t 38) (.t 39)⟩,
      ⟨some 41, none, .pick (.t 37) (.k (.b true)) (.t 40)⟩])
    (.cond (.t 41) (.seq (.ops [⟨some 2, none, .mv (.k (.b false))⟩])
    (.ret))
    (.skip)))
    (.seq (.seq (.ops [⟨some 42, none, .mv (.t 6)⟩,
      ⟨some 43, none, .bin .neq (.t 42) (.k (.i .i64 0))⟩])
    (.cond (.t 43) (.seq (.ops [⟨some 44, none, .mv (.t 6)⟩,
      ⟨some 45, none, .bin .geq (.t 44) (.k (.i .i64 1))⟩,
      ⟨some 46, none, .mv (.t 45)⟩,
      ⟨some 47, (some (46, true)), .mv (.t 6)⟩,
      ⟨some 48, (some (46, true)), .bin .leq (.t 47) (.k (.i .i64 6))⟩,
      ⟨some 49, none, .pick (.t 46) (.t 48) (.k (.b false))⟩,
      ⟨some 50, none, .mv (.t 49)⟩,
      ⟨some 51, (some (50, true)), .mv (.t 7)⟩,
      ⟨some 52, (some (50, true)), .bin .geq (.t 51) (.k (.i .i64 0))⟩,
      ⟨some 53, none, .pick (.t 50) (.t 52) (.k (.b false))⟩,
      ⟨some 54, none, .mv (.t 53)⟩,
      ⟨some 55, (some (54, true)), .mv (.t 7)⟩,
      ⟨some 56, (some (54, true)), .bin .lss (.t 55) (.k (.i .i64 120))⟩,
      ⟨some 57, none, .pick (.t 54) (.t 56) (.k (.b false))⟩,
      ⟨some 58, none, .mv (.t 57)⟩,
      ⟨some 59, (some (58, true)), .call (.k (.fn n_laws_alive [] [])) []⟩,
      ⟨some 60, none, .pick (.t 58) (.t 59) (.k (.b false))⟩,
      ⟨some 2, none, .mv (.t 60)⟩])
    (.ret))
    (.skip)))
    (.seq (.seq (.ops [⟨some 10, none, .mv (.k (.i .i64 0))⟩])
    (.block 0 (.loop l0_laws_FnCheckSound)))
    (.seq (.ops [⟨some 100, none, .mv (.t 7)⟩,
      ⟨some 101, none, .bin .eql (.t 100) (.k (.i .i64 0))⟩,
      ⟨some 102, none, .mv (.t 101)⟩,
      ⟨some 103, (some (102, true)), .mv (.t 5)⟩,
      ⟨some 104, (some (102, true)), .len (.t 103)⟩,
      ⟨some 105, (some (102, true)), .bin .eql (.t 104) (.k (.i .i64 120))⟩,
      ⟨some 106, none, .pick (.t 102) (.t 105) (.k (.b false))⟩,
      ⟨some 2, none, .mv (.t 106)⟩])
    (.ret)))))))))
theorem k_laws_FnCheckSound : chkF Try.prog Try.f11 107 c_laws_FnCheckSound [.t 2] = true := by kernel_rfl
theorem call_laws_FnCheckSound {args : List AV} {σ : List AB} {K : AV → List AB → Prop} (hn : args.length ≤ 107) (hw : wpC Try.prog σ.length 107 c_laws_FnCheckSound (retP σ.length [.t 2] K) ⟨initT 0 args, σ⟩) : CallWp Try.prog n_laws_FnCheckSound args σ K := call_fn mixed Try.func11 k_laws_FnCheckSound hn hw
theorem callC_laws_FnCheckSound {args : List AV} {σ : List AB} {K : AV → List AB → Prop} (hn : args.length ≤ 107) (hw : Closed σ → args.all (below1 σ.length) = true → wpC Try.prog σ.length 107 c_laws_FnCheckSound (retP σ.length [.t 2] K) ⟨initT 0 args, σ⟩) : CallWp Try.prog n_laws_FnCheckSound args σ K := call_fnC mixed Try.func11 k_laws_FnCheckSound hn hw

-- loop.example/deadlinescheduler/laws.FnCheckTamper
-- region 5: a plan with 1 orders
def c_laws_FnCheckTamper : LC := .seq (.ops [⟨some 2, none, .mv (.k (.b false))⟩])
    (.seq (.seq (.ops [⟨some 12, none, .mv (.t 0)⟩,
      ⟨some 13, none, .len (.t 12)⟩,
      ⟨some 14, none, .bin .gtr (.t 13) (.k (.i .i64 1048576))⟩])
    (.cond (.t 14) (.seq (.ops [⟨some 2, none, .mv (.k (.b true))⟩])
    (.ret))
    (.skip)))
    (.seq (.ops [⟨some 16, none, .mv (.t 0)⟩,
      ⟨some 17, none, .call (.k (.fn n_spec_DrawRunEdf [] [])) [.t 16]⟩,
      ⟨some 15, none, .mv (.t 17)⟩,
      ⟨some 18, none, .ext 0 (.t 15)⟩,
      ⟨some 19, none, .ext 1 (.t 15)⟩,
      ⟨some 3, none, .mv (.t 18)⟩,
      ⟨some 4, none, .mv (.t 19)⟩])
    (.seq (.ops [⟨some 20, none, .mv (.t 3)⟩,
      ⟨some 21, none, .mv (.t 4)⟩,
      ⟨some 22, none, .call (.k (.fn n_impl_RunEdf [] [])) [.t 20, .t 21]⟩,
      ⟨some 5, none, .alloc ty_impl_Schedule [.sn, .sn]⟩,
      ⟨none, none, .st 2 (.t 5) (.t 22)⟩])
    (.seq (.seq (.plan [0, 1, 2] [⟨some 23, none, .ldn 2 (.t 5)⟩,
      ⟨some 24, none, .mv (.t 3)⟩,
      ⟨some 25, none, .mv (.t 4)⟩]
      (.one 3 ⟨some 26, none, .call (.k (.fn n_spec_RunEdf [] [])) [.t 24, .t 25]⟩ [(23, some 2, 5)] []
        []
      (.one 4 ⟨some 27, none, .call (.k (.fn n_laws_sameSchedule [] [])) [.t 23, .t 26]⟩ [] [5]
        [⟨some 28, none, .not (.t 27)⟩]
      .fin)))
    (.cond (.t 28) (.seq (.ops [⟨some 2, none, .mv (.k (.b false))⟩])
    (.ret))
    (.skip)))
    (.seq (.ops [⟨some 30, none, .mv (.t 3)⟩,
      ⟨some 31, none, .mv (.t 4)⟩,
      ⟨some 32, none, .fa 0 (.t 5)⟩,
      ⟨some 33, none, .ld (.t 32)⟩,
      ⟨some 34, none, .call (.k (.fn n_impl_CheckSchedule [] [])) [.t 30, .t 31, .t 33]⟩,
      ⟨some 29, none, .mv (.t 34)⟩,
      ⟨some 35, none, .ext 0 (.t 29)⟩,
      ⟨some 36, none, .ext 1 (.t 29)⟩,
      ⟨some 6, none, .mv (.t 35)⟩,
      ⟨some 7, none, .mv (.t 36)⟩])
    (.seq (.seq (.ops [⟨some 37, none, .mv (.t 6)⟩,
      ⟨some 38, none, .bin .neq (.t 37) (.k (.i .i64 0))⟩])
    (.cond (.t 38) (.seq (.ops [⟨some 39, none, .call (.k (.fn n_laws_alive [] [])) []⟩,
      ⟨some 2, none, .mv (.t 39)⟩])
    (.ret))
    (.skip)))
    (.seq (.ops [⟨some 40, none, .mv (.t 0)⟩,
      ⟨some 41, none, .len (.t 40)⟩,
      ⟨some 42, none, .bin .mul (.t 41) (.k (.i .i64 7))⟩,
      ⟨some 43, none, .bin .rem (.t 42) (.k (.i .i64 120))⟩,
      ⟨some 8, none, .mv (.t 43)⟩])
    (.seq (.seq (.ops [⟨some 44, none, .fa 0 (.t 5)⟩,
      ⟨some 45, none, .ld (.t 44)⟩,
      ⟨some 46, none, .mv (.t 8)⟩,
      ⟨some 47, none, .ia 1 (.t 45) (.t 46)⟩,
      ⟨some 48, none, .ld (.t 47)⟩,
      ⟨some 49, none, .bin .lss (.t 48) (.k (.i .i64 0))⟩])
    (.cond (.t 49) (.seq (.ops [⟨some 2, none, .mv (.k (.b true))⟩])
    (.ret))
    (.skip)))
    (.seq (.ops [⟨some 50, none, .bsl ty_int [.i .i64 0] 0 []⟩,
      ⟨some 51, none, .fa 0 (.t 5)⟩,
      ⟨some 52, none, .ld (.t 51)⟩,
      ⟨some 53, none, .app ty_int 1 8 (.t 50) (.t 52)⟩,
      ⟨some 9, none, .mv (.t 53)⟩])
    (.seq (.ops [⟨some 54, none, .mv (.t 9)⟩,
      ⟨some 55, none, .mv (.t 8)⟩,
      ⟨some 56, none, .ia 1 (.t 54) (.t 55)⟩,
      ⟨none, none, .st 1 (.t 56) (.k (.i .i64 (-1)))⟩])
    (.seq (.ops [⟨some 58, none, .mv (.t 3)⟩,
      ⟨some 59, none, .mv (.t 4)⟩,
      ⟨some 60, none, .mv (.t 9)⟩,
      ⟨some 61, none, .call (.k (.fn n_impl_CheckSchedule [] [])) [.t 58, .t 59, .t 60]⟩,
      ⟨some 57, none, .mv (.t 61)⟩,
      ⟨some 62, none, .ext 0 (.t 57)⟩,
      ⟨some 63, none, .ext 1 (.t 57)⟩,
      ⟨some 10, none, .mv (.t 62)⟩,
      ⟨some 11, none, .mv (.t 63)⟩])
    (.seq (.ops [⟨some 64, none, .mv (.t 10)⟩,
      ⟨some 65, none, .bin .eql (.t 64) (.k (.i .i64 4))⟩,
      ⟨some 66, none, .mv (.t 65)⟩,
      ⟨some 67, (some (66, true)), .mv (.t 11)⟩,
      ⟨some 68, (some (66, true)), .mv (.t 8)⟩,
      ⟨some 69, (some (66, true)), .bin .eql (.t 67) (.t 68)⟩,
      ⟨some 70, none, .pick (.t 66) (.t 69) (.k (.b false))⟩,
      ⟨some 2, none, .mv (.t 70)⟩])
    (.ret)))))))))))))
theorem k_laws_FnCheckTamper : chkF Try.prog Try.f12 71 c_laws_FnCheckTamper [.t 2] = true := by kernel_rfl
theorem call_laws_FnCheckTamper {args : List AV} {σ : List AB} {K : AV → List AB → Prop} (hn : args.length ≤ 71) (hw : wpC Try.prog σ.length 71 c_laws_FnCheckTamper (retP σ.length [.t 2] K) ⟨initT 0 args, σ⟩) : CallWp Try.prog n_laws_FnCheckTamper args σ K := call_fn mixed Try.func12 k_laws_FnCheckTamper hn hw
theorem callC_laws_FnCheckTamper {args : List AV} {σ : List AB} {K : AV → List AB → Prop} (hn : args.length ≤ 71) (hw : Closed σ → args.all (below1 σ.length) = true → wpC Try.prog σ.length 71 c_laws_FnCheckTamper (retP σ.length [.t 2] K) ⟨initT 0 args, σ⟩) : CallWp Try.prog n_laws_FnCheckTamper args σ K := call_fnC mixed Try.func12 k_laws_FnCheckTamper hn hw

-- loop.example/deadlinescheduler/laws.FnCheckEdf
-- region 5: a plan with 1 orders
def c_laws_FnCheckEdf : LC := .seq (.ops [⟨some 2, none, .mv (.k (.b false))⟩])
    (.seq (.seq (.ops [⟨some 8, none, .mv (.t 0)⟩,
      ⟨some 9, none, .len (.t 8)⟩,
      ⟨some 10, none, .bin .gtr (.t 9) (.k (.i .i64 1048576))⟩])
    (.cond (.t 10) (.seq (.ops [⟨some 2, none, .mv (.k (.b true))⟩])
    (.ret))
    (.skip)))
    (.seq (.ops [⟨some 12, none, .mv (.t 0)⟩,
      ⟨some 13, none, .call (.k (.fn n_spec_DrawRunEdf [] [])) [.t 12]⟩,
      ⟨some 11, none, .mv (.t 13)⟩,
      ⟨some 14, none, .ext 0 (.t 11)⟩,
      ⟨some 15, none, .ext 1 (.t 11)⟩,
      ⟨some 3, none, .mv (.t 14)⟩,
      ⟨some 4, none, .mv (.t 15)⟩])
    (.seq (.ops [⟨some 16, none, .mv (.t 3)⟩,
      ⟨some 17, none, .mv (.t 4)⟩,
      ⟨some 18, none, .call (.k (.fn n_impl_RunEdf [] [])) [.t 16, .t 17]⟩,
      ⟨some 5, none, .alloc ty_impl_Schedule [.sn, .sn]⟩,
      ⟨none, none, .st 2 (.t 5) (.t 18)⟩])
    (.seq (.seq (.plan [0, 1, 2] [⟨some 19, none, .ldn 2 (.t 5)⟩,
      ⟨some 20, none, .mv (.t 3)⟩,
      ⟨some 21, none, .mv (.t 4)⟩]
      (.one 3 ⟨some 22, none, .call (.k (.fn n_spec_RunEdf [] [])) [.t 20, .t 21]⟩ [(19, some 2, 5)] []
        []
      (.one 4 ⟨some 23, none, .call (.k (.fn n_laws_sameSchedule [] [])) [.t 19, .t 22]⟩ [] [5]
        [⟨some 24, none, .not (.t 23)⟩]
      .fin)))
    (.cond (.t 24) (.seq (.ops [⟨some 2, none, .mv (.k (.b false))⟩])
    (.ret))
    (.skip)))
    (.seq (.ops [⟨some 26, none, .mv (.t 3)⟩,
      ⟨some 27, none, .mv (.t 4)⟩,
      ⟨some 28, none, .fa 0 (.t 5)⟩,
      ⟨some 29, none, .ld (.t 28)⟩,
      ⟨some 30, none, .call (.k (.fn n_impl_CheckSchedule [] [])) [.t 26, .t 27, .t 29]⟩,
      ⟨some 25, none, .mv (.t 30)⟩,
      ⟨some 31, none, .ext 0 (.t 25)⟩,
      ⟨some 32, none, .ext 1 (.t 25)⟩,
      ⟨some 6, none, .mv (.t 31)⟩,
      ⟨some 7, none, .mv (.t 32)⟩])
    (.seq (.seq (.ops [⟨some 33, none, .mv (.t 3)⟩,
      ⟨some 34, none, .mv (.t 4)⟩,
      ⟨some 35, none, .call (.k (.fn n_spec_JobsLegal [] [])) [.t 33, .t 34]⟩,
      ⟨some 36, none, .not (.t 35)⟩])
    (.cond (.t 36) (.seq (.ops [⟨some 37, none, .mv (.t 6)⟩,
      ⟨some 38, none, .bin .eql (.t 37) (.k (.i .i64 1))⟩,
      ⟨some 39, none, .mv (.t 38)⟩,
      ⟨some 40, (some (39, true)), .call (.k (.fn n_laws_alive [] [])) []⟩,
      ⟨some 41, none, .pick (.t 39) (.t 40) (.k (.b false))⟩,
      ⟨some 2, none, .mv (.t 41)⟩])
    (.ret))
    (.skip)))
    (.seq (.ops [⟨some 42, none, .mv (.t 6)⟩,
      ⟨some 43, none, .bin .eql (.t 42) (.k (.i .i64 0))⟩,
      ⟨some 44, none, .mv (.t 4)⟩,
      ⟨some 45, none, .ldn 2 (.t 5)⟩,
      ⟨some 46, none, .call (.k (.fn n_impl_Missed [] [])) [.t 44, .t 45]⟩,
      ⟨some 47, none, .len (.t 46)⟩,
      ⟨some 48, none, .bin .eql (.t 47) (.k (.i .i64 0))⟩,
      ⟨some 49, none, .beq false (.t 43) (.t 48)⟩,
      ⟨some 50, none, .mv (.t 49)⟩,
      ⟨some 51, (some (50, true)), .mv (.t 6)⟩,
      ⟨some 52, (some (50, true)), .bin .eql (.t 51) (.k (.i .i64 0))⟩,
      ⟨some 53, (some (50, true)), .mv (.t 52)⟩,
      ⟨some 54, (some (53, false)), .mv (.t 6)⟩,
      ⟨some 55, (some (53, false)), .bin .eql (.t 54) (.k (.i .i64 6))⟩,
      ⟨some 56, (some (50, true)), .pick (.t 53) (.k (.b true)) (.t 55)⟩,
      ⟨some 57, none, .pick (.t 50) (.t 56) (.k (.b false))⟩,
      ⟨some 2, none, .mv (.t 57)⟩])
    (.ret))))))))
theorem k_laws_FnCheckEdf : chkF Try.prog Try.f13 58 c_laws_FnCheckEdf [.t 2] = true := by kernel_rfl
theorem call_laws_FnCheckEdf {args : List AV} {σ : List AB} {K : AV → List AB → Prop} (hn : args.length ≤ 58) (hw : wpC Try.prog σ.length 58 c_laws_FnCheckEdf (retP σ.length [.t 2] K) ⟨initT 0 args, σ⟩) : CallWp Try.prog n_laws_FnCheckEdf args σ K := call_fn mixed Try.func13 k_laws_FnCheckEdf hn hw
theorem callC_laws_FnCheckEdf {args : List AV} {σ : List AB} {K : AV → List AB → Prop} (hn : args.length ≤ 58) (hw : Closed σ → args.all (below1 σ.length) = true → wpC Try.prog σ.length 58 c_laws_FnCheckEdf (retP σ.length [.t 2] K) ⟨initT 0 args, σ⟩) : CallWp Try.prog n_laws_FnCheckEdf args σ K := call_fnC mixed Try.func13 k_laws_FnCheckEdf hn hw

-- loop.example/deadlinescheduler/spec.DrawRunFixed
def c_spec_DrawRunFixed : LC := .seq (.ops [⟨some 2, none, .mv (.k (.sn))⟩,
      ⟨some 3, none, .mv (.k (.sn))⟩,
      ⟨some 4, none, .mv (.k (.sn))⟩])
    (.seq (.ops [⟨some 8, none, .mv (.t 0)⟩,
      ⟨some 9, none, .call (.k (.fn n_spec_l20Open [] [])) [.t 8]⟩,
      ⟨some 5, none, .mv (.t 9)⟩])
    (.seq (.ops [⟨some 10, none, .mv (.t 5)⟩,
      ⟨some 11, none, .call (.k (.fn n_spec_l20Set [] [])) [.t 10, .k (.i .i64 24)]⟩,
      ⟨some 6, none, .mv (.t 11)⟩])
    (.seq (.ops [⟨some 12, none, .mv (.t 5)⟩,
      ⟨some 13, none, .mv (.t 6)⟩,
      ⟨some 14, none, .len (.t 13)⟩,
      ⟨some 15, none, .call (.k (.fn n_spec_l20Order [] [])) [.t 12, .t 14, .k (.i .i64 16)]⟩,
      ⟨some 7, none, .mv (.t 15)⟩])
    (.seq (.seq (.ops [⟨some 16, none, .mv (.t 6)⟩,
      ⟨some 17, none, .call (.k (.fn n_spec_SetValid [] [])) [.t 16]⟩,
      ⟨some 18, none, .not (.t 17)⟩])
    (.cond (.t 18) (.seq (.ops [⟨some 19, none, .mv (.t 6)⟩,
      ⟨some 20, none, .mv (.t 7)⟩,
      ⟨some 21, none, .bsl ty_impl_Job [.i .i64 0, .i .i64 0, .i .i64 0, .i .i64 0] 0 []⟩,
      ⟨some 2, none, .mv (.t 19)⟩,
      ⟨some 3, none, .mv (.t 20)⟩,
      ⟨some 4, none, .mv (.t 21)⟩])
    (.ret))
    (.skip)))
    (.seq (.ops [⟨some 22, none, .mv (.t 6)⟩,
      ⟨some 23, none, .mv (.t 7)⟩,
      ⟨some 24, none, .mv (.t 5)⟩,
      ⟨some 25, none, .mv (.t 6)⟩,
      ⟨some 26, none, .call (.k (.fn n_spec_l20Jobs [] [])) [.t 24, .t 25, .k (.i .i64 16)]⟩,
      ⟨some 2, none, .mv (.t 22)⟩,
      ⟨some 3, none, .mv (.t 23)⟩,
      ⟨some 4, none, .mv (.t 26)⟩])
    (.ret))))))
theorem k_spec_DrawRunFixed : chkF Try.prog Try.f14 27 c_spec_DrawRunFixed [.t 2, .t 3, .t 4] = true := by kernel_rfl
theorem call_spec_DrawRunFixed {args : List AV} {σ : List AB} {K : AV → List AB → Prop} (hn : args.length ≤ 27) (hw : wpC Try.prog σ.length 27 c_spec_DrawRunFixed (retP σ.length [.t 2, .t 3, .t 4] K) ⟨initT 0 args, σ⟩) : CallWp Try.prog n_spec_DrawRunFixed args σ K := call_fn mixed Try.func14 k_spec_DrawRunFixed hn hw
theorem callC_spec_DrawRunFixed {args : List AV} {σ : List AB} {K : AV → List AB → Prop} (hn : args.length ≤ 27) (hw : Closed σ → args.all (below1 σ.length) = true → wpC Try.prog σ.length 27 c_spec_DrawRunFixed (retP σ.length [.t 2, .t 3, .t 4] K) ⟨initT 0 args, σ⟩) : CallWp Try.prog n_spec_DrawRunFixed args σ K := call_fnC mixed Try.func14 k_spec_DrawRunFixed hn hw

-- loop.example/deadlinescheduler/impl.RunFixed
def c_impl_RunFixed : LC := .seq (.ops [⟨some 6, none, .alloc ty_impl_Schedule [.sn, .sn]⟩])
    (.seq (.seq (.ops [⟨some 7, none, .mv (.t 0)⟩,
      ⟨some 8, none, .mv (.t 1)⟩,
      ⟨some 9, none, .call (.k (.fn n_impl_OrderValid [] [])) [.t 7, .t 8]⟩,
      ⟨some 10, none, .not (.t 9)⟩,
      ⟨some 11, none, .mv (.t 10)⟩,
      ⟨some 12, (some (11, false)), .mv (.t 0)⟩,
      ⟨some 13, (some (11, false)), .mv (.t 2)⟩,
      ⟨some 14, (some (11, false)), .call (.k (.fn n_impl_JobsLegal [] [])) [.t 12, .t 13]⟩,
      ⟨some 15, (some (11, false)), .not (.t 14)⟩,
      ⟨some 16, none, .pick (.t 11) (.k (.b true)) (.t 15)⟩])
    (.cond (.t 16) (.seq (.ops [⟨some 17, none, .build [.sn, .sn] []⟩,
      ⟨none, none, .st 2 (.t 6) (.t 17)⟩])
    (.ret))
    (.skip)))
    (.seq (.ops [⟨some 18, none, .mv (.t 2)⟩,
      ⟨some 19, none, .mv (.t 1)⟩,
      ⟨some 20, none, .call (.k (.fn n_impl_fixed [] [])) [.t 19]⟩,
      ⟨some 21, none, .call (.k (.fn n_impl_simulate [] [])) [.t 18, .t 20]⟩,
      ⟨none, none, .st 2 (.t 6) (.t 21)⟩])
    (.ret)))
theorem k_impl_RunFixed : chkF Try.prog Try.f15 22 c_impl_RunFixed [.c 6 (some 2)] = true := by kernel_rfl
theorem call_impl_RunFixed {args : List AV} {σ : List AB} {K : AV → List AB → Prop} (hn : args.length ≤ 22) (hw : wpC Try.prog σ.length 22 c_impl_RunFixed (retP σ.length [.c 6 (some 2)] K) ⟨initT 0 args, σ⟩) : CallWp Try.prog n_impl_RunFixed args σ K := call_fn mixed Try.func15 k_impl_RunFixed hn hw
theorem callC_impl_RunFixed {args : List AV} {σ : List AB} {K : AV → List AB → Prop} (hn : args.length ≤ 22) (hw : Closed σ → args.all (below1 σ.length) = true → wpC Try.prog σ.length 22 c_impl_RunFixed (retP σ.length [.c 6 (some 2)] K) ⟨initT 0 args, σ⟩) : CallWp Try.prog n_impl_RunFixed args σ K := call_fnC mixed Try.func15 k_impl_RunFixed hn hw

-- loop.example/deadlinescheduler/laws.sameSchedule
def c_laws_sameSchedule : LC := .seq (.ops [⟨some 2, none, .box ty_impl_Schedule (.t 0)⟩,
      ⟨some 3, none, .box ty_impl_Schedule (.t 1)⟩,
      ⟨some 4, none, .mv (.k (.b false))⟩])
    (.seq (.ops [⟨some 5, none, .fa 0 (.t 2)⟩,
      ⟨some 6, none, .ld (.t 5)⟩,
      ⟨some 7, none, .fa 0 (.t 3)⟩,
      ⟨some 8, none, .ld (.t 7)⟩,
      ⟨some 9, none, .call (.k (.fn n_laws_sameInts [] [])) [.t 6, .t 8]⟩,
      ⟨some 10, none, .mv (.t 9)⟩,
      ⟨some 11, (some (10, true)), .fa 1 (.t 2)⟩,
      ⟨some 12, (some (10, true)), .ld (.t 11)⟩,
      ⟨some 13, (some (10, true)), .fa 1 (.t 3)⟩,
      ⟨some 14, (some (10, true)), .ld (.t 13)⟩,
      ⟨some 15, (some (10, true)), .call (.k (.fn n_laws_sameInts [] [])) [.t 12, .t 14]⟩,
      ⟨some 16, none, .pick (.t 10) (.t 15) (.k (.b false))⟩,
      ⟨some 4, none, .mv (.t 16)⟩])
    (.ret))
theorem k_laws_sameSchedule : chkF Try.prog Try.f16 17 c_laws_sameSchedule [.t 4] = true := by kernel_rfl
theorem call_laws_sameSchedule {args : List AV} {σ : List AB} {K : AV → List AB → Prop} (hn : args.length ≤ 17) (hw : wpC Try.prog σ.length 17 c_laws_sameSchedule (retP σ.length [.t 4] K) ⟨initT 0 args, σ⟩) : CallWp Try.prog n_laws_sameSchedule args σ K := call_fn mixed Try.func16 k_laws_sameSchedule hn hw
theorem callC_laws_sameSchedule {args : List AV} {σ : List AB} {K : AV → List AB → Prop} (hn : args.length ≤ 17) (hw : Closed σ → args.all (below1 σ.length) = true → wpC Try.prog σ.length 17 c_laws_sameSchedule (retP σ.length [.t 4] K) ⟨initT 0 args, σ⟩) : CallWp Try.prog n_laws_sameSchedule args σ K := call_fnC mixed Try.func16 k_laws_sameSchedule hn hw

-- loop.example/deadlinescheduler/spec.RunFixed
-- l0_spec_RunFixed: live at the head: 1 2 6 7 8
def l0_spec_RunFixed : LC := .seq (.seq (.ops [⟨some 21, none, .mv (.t 8)⟩,
      ⟨some 22, none, .mv (.t 2)⟩,
      ⟨some 23, none, .len (.t 22)⟩,
      ⟨some 24, none, .bin .lss (.t 21) (.t 23)⟩])
    (.cond (.t 24) (.skip)
    (.exit 0)))
    (.seq (.block 1 (.ops [⟨some 27, none, .mv (.t 7)⟩,
      ⟨some 28, none, .mv (.t 1)⟩,
      ⟨some 29, none, .mv (.t 2)⟩,
      ⟨some 30, none, .mv (.t 8)⟩,
      ⟨some 31, none, .ia 4 (.t 29) (.t 30)⟩,
      ⟨some 32, none, .fa 0 (.t 31)⟩,
      ⟨some 33, none, .ld (.t 32)⟩,
      ⟨some 34, none, .call (.k (.fn n_spec_l4Index [] [])) [.t 28, .t 33]⟩,
      ⟨some 35, none, .bsl ty_int [.i .i64 0] 1 [(0, 1, .t 34)]⟩,
      ⟨some 36, none, .app ty_int 1 8 (.t 27) (.t 35)⟩,
      ⟨some 7, none, .mv (.t 36)⟩]))
    (.ops [⟨some 25, none, .mv (.t 8)⟩,
      ⟨some 26, none, .bin .add (.t 25) (.k (.i .i64 1))⟩,
      ⟨some 8, none, .mv (.t 26)⟩]))
def c_spec_RunFixed : LC := .seq (.ops [⟨some 6, none, .alloc ty_impl_Schedule [.sn, .sn]⟩])
    (.seq (.seq (.ops [⟨some 9, none, .mv (.t 0)⟩,
      ⟨some 10, none, .mv (.t 1)⟩,
      ⟨some 11, none, .call (.k (.fn n_spec_OrderValid [] [])) [.t 9, .t 10]⟩,
      ⟨some 12, none, .not (.t 11)⟩,
      ⟨some 13, none, .mv (.t 12)⟩,
      ⟨some 14, (some (13, false)), .mv (.t 0)⟩,
      ⟨some 15, (some (13, false)), .mv (.t 2)⟩,
      ⟨some 16, (some (13, false)), .call (.k (.fn n_spec_JobsLegal [] [])) [.t 14, .t 15]⟩,
      ⟨some 17, (some (13, false)), .not (.t 16)⟩,
      ⟨some 18, none, .pick (.t 13) (.k (.b true)) (.t 17)⟩])
    (.cond (.t 18) (.seq (.ops [⟨some 19, none, .build [.sn, .sn] []⟩,
      ⟨none, none, .st 2 (.t 6) (.t 19)⟩])
    (.ret))
    (.skip)))
    (.seq (.ops [⟨some 20, none, .bsl ty_int [.i .i64 0] 0 []⟩,
      ⟨some 7, none, .mv (.t 20)⟩])
    (.seq (.seq (.ops [⟨some 8, none, .mv (.k (.i .i64 0))⟩])
    (.block 0 (.loop l0_spec_RunFixed)))
    (.seq (.ops [⟨some 37, none, .mv (.t 2)⟩,
      ⟨some 38, none, .mv (.t 7)⟩,
      ⟨some 39, none, .call (.k (.fn n_spec_l3Run [] [])) [.t 37, .t 38]⟩,
      ⟨none, none, .st 2 (.t 6) (.t 39)⟩])
    (.ret)))))
theorem k_spec_RunFixed : chkF Try.prog Try.f17 40 c_spec_RunFixed [.c 6 (some 2)] = true := by kernel_rfl
theorem call_spec_RunFixed {args : List AV} {σ : List AB} {K : AV → List AB → Prop} (hn : args.length ≤ 40) (hw : wpC Try.prog σ.length 40 c_spec_RunFixed (retP σ.length [.c 6 (some 2)] K) ⟨initT 0 args, σ⟩) : CallWp Try.prog n_spec_RunFixed args σ K := call_fn mixed Try.func17 k_spec_RunFixed hn hw
theorem callC_spec_RunFixed {args : List AV} {σ : List AB} {K : AV → List AB → Prop} (hn : args.length ≤ 40) (hw : Closed σ → args.all (below1 σ.length) = true → wpC Try.prog σ.length 40 c_spec_RunFixed (retP σ.length [.c 6 (some 2)] K) ⟨initT 0 args, σ⟩) : CallWp Try.prog n_spec_RunFixed args σ K := call_fnC mixed Try.func17 k_spec_RunFixed hn hw

-- loop.example/deadlinescheduler/laws.alive
def c_laws_alive : LC := .seq (.ops [⟨some 0, none, .mv (.k (.b false))⟩])
    (.seq (.ops [⟨some 1, none, .build [.i .i64 0, .i .i64 0, .i .i64 0] [(0, 1, .k (.i .i64 1)), (1, 1, .k (.i .i64 1)), (2, 1, .k (.i .i64 1))]⟩,
      ⟨some 2, none, .call (.k (.fn n_impl_TaskValid [] [])) [.t 1]⟩,
      ⟨some 0, none, .mv (.t 2)⟩])
    (.ret))
theorem k_laws_alive : chkF Try.prog Try.f18 3 c_laws_alive [.t 0] = true := by kernel_rfl
theorem call_laws_alive {args : List AV} {σ : List AB} {K : AV → List AB → Prop} (hn : args.length ≤ 3) (hw : wpC Try.prog σ.length 3 c_laws_alive (retP σ.length [.t 0] K) ⟨initT 0 args, σ⟩) : CallWp Try.prog n_laws_alive args σ K := call_fn mixed Try.func18 k_laws_alive hn hw
theorem callC_laws_alive {args : List AV} {σ : List AB} {K : AV → List AB → Prop} (hn : args.length ≤ 3) (hw : Closed σ → args.all (below1 σ.length) = true → wpC Try.prog σ.length 3 c_laws_alive (retP σ.length [.t 0] K) ⟨initT 0 args, σ⟩) : CallWp Try.prog n_laws_alive args σ K := call_fnC mixed Try.func18 k_laws_alive hn hw

-- loop.example/deadlinescheduler/spec.OrderValid
-- region 6 draws, 20 of 20 first
-- l0_spec_OrderValid: live at the head: 0 1 5 32 33 34 35 36 37 38 39 40
def l0_spec_OrderValid : LC := .seq (.seq (.ops [⟨some 16, none, .mv (.t 5)⟩,
      ⟨some 17, none, .mv (.t 1)⟩,
      ⟨some 18, none, .len (.t 17)⟩,
      ⟨some 19, none, .bin .lss (.t 16) (.t 18)⟩])
    (.cond (.t 19) (.skip)
    (.exit 0)))
    (.seq (.block 1 (.seq (.draw 20 [⟨some 22, none, .mv (.t 1)⟩,
      ⟨some 23, none, .mv (.t 5)⟩,
      ⟨some 24, none, .ia 1 (.t 22) (.t 23)⟩,
      ⟨some 25, none, .ld (.t 24)⟩,
      ⟨some 26, none, .mv (.t 0)⟩,
      ⟨some 27, none, .len (.t 26)⟩,
      ⟨some 28, none, .bin .sub (.t 27) (.k (.i .i64 1))⟩,
      ⟨some 29, none, .call (.k (.fn n_spec_l1In [] [])) [.t 25, .k (.i .i64 0), .t 28]⟩,
      ⟨some 30, none, .not (.t 29)⟩,
      ⟨some 31, none, .mv (.t 30)⟩,
      ⟨some 32, (some (31, false)), .mv (.t 1)⟩,
      ⟨some 33, (some (31, false)), .mv (.t 5)⟩,
      ⟨some 34, (some (31, false)), .slc 1 (.t 32) none (some (.t 33)) none⟩,
      ⟨some 35, (some (31, false)), .mv (.t 1)⟩,
      ⟨some 36, (some (31, false)), .mv (.t 5)⟩,
      ⟨some 37, (some (31, false)), .ia 1 (.t 35) (.t 36)⟩,
      ⟨some 38, (some (31, false)), .ld (.t 37)⟩,
      ⟨some 39, (some (31, false)), .call (.k (.fn n_spec_l4Index [] [])) [.t 34, .t 38]⟩,
      ⟨some 40, (some (31, false)), .bin .geq (.t 39) (.k (.i .i64 0))⟩,
      ⟨some 41, none, .pick (.t 31) (.k (.b true)) (.t 40)⟩])
    (.cond (.t 41) (.seq (.ops [⟨some 4, none, .mv (.k (.b false))⟩])
    (.ret))
    (.skip))))
    (.ops [⟨some 20, none, .mv (.t 5)⟩,
      ⟨some 21, none, .bin .add (.t 20) (.k (.i .i64 1))⟩,
      ⟨some 5, none, .mv (.t 21)⟩]))
def c_spec_OrderValid : LC := .seq (.ops [⟨some 4, none, .mv (.k (.b false))⟩])
    (.seq (.seq (.ops [⟨some 6, none, .mv (.t 0)⟩,
      ⟨some 7, none, .call (.k (.fn n_spec_SetValid [] [])) [.t 6]⟩,
      ⟨some 8, none, .not (.t 7)⟩,
      ⟨some 9, none, .mv (.t 8)⟩,
      ⟨some 10, (some (9, false)), .mv (.t 1)⟩,
      ⟨some 11, (some (9, false)), .len (.t 10)⟩,
      ⟨some 12, (some (9, false)), .mv (.t 0)⟩,
      ⟨some 13, (some (9, false)), .len (.t 12)⟩,
      ⟨some 14, (some (9, false)), .bin .neq (.t 11) (.t 13)⟩,
      ⟨some 15, none, .pick (.t 9) (.k (.b true)) (.t 14)⟩])
    (.cond (.t 15) (.seq (.ops [⟨some 4, none, .mv (.k (.b false))⟩])
    (.ret))
    (.skip)))
    (.seq (.seq (.ops [⟨some 5, none, .mv (.k (.i .i64 0))⟩])
    (.block 0 (.loop l0_spec_OrderValid)))
    (.seq (.ops [⟨some 4, none, .mv (.k (.b true))⟩])
    (.ret))))
theorem k_spec_OrderValid : chkF Try.prog Try.f19 42 c_spec_OrderValid [.t 4] = true := by kernel_rfl
theorem call_spec_OrderValid {args : List AV} {σ : List AB} {K : AV → List AB → Prop} (hn : args.length ≤ 42) (hw : wpC Try.prog σ.length 42 c_spec_OrderValid (retP σ.length [.t 4] K) ⟨initT 0 args, σ⟩) : CallWp Try.prog n_spec_OrderValid args σ K := call_fn mixed Try.func19 k_spec_OrderValid hn hw
theorem callC_spec_OrderValid {args : List AV} {σ : List AB} {K : AV → List AB → Prop} (hn : args.length ≤ 42) (hw : Closed σ → args.all (below1 σ.length) = true → wpC Try.prog σ.length 42 c_spec_OrderValid (retP σ.length [.t 4] K) ⟨initT 0 args, σ⟩) : CallWp Try.prog n_spec_OrderValid args σ K := call_fnC mixed Try.func19 k_spec_OrderValid hn hw

-- loop.example/deadlinescheduler/spec.JobsLegal
-- region 11 draws, 26 of 26 first
-- region 13 draws, 35 of 35 first
-- l0_spec_JobsLegal: live at the head: 0 1 5 6 38 39 40 41 57 58 59 60 61 62 63 64 67 68 69 70 71 72 77 78 79 80 81 82 83 84 85 86 87 88 89 90 91 92 93 94 95 96 97 98 99 100 101 102 103 104 105 106 107
def l0_spec_JobsLegal : LC := .seq (.seq (.ops [⟨some 20, none, .mv (.t 6)⟩,
      ⟨some 21, none, .mv (.t 1)⟩,
      ⟨some 22, none, .len (.t 21)⟩,
      ⟨some 23, none, .bin .lss (.t 20) (.t 22)⟩])
    (.cond (.t 23) (.skip)
    (.exit 0)))
    (.seq (.block 1 (.seq (.ops [⟨some 26, none, .mv (.t 1)⟩,
      ⟨some 27, none, .mv (.t 6)⟩,
      ⟨some 28, none, .ia 4 (.t 26) (.t 27)⟩,
      ⟨some 29, none, .ldn 4 (.t 28)⟩,
      ⟨some 7, none, .alloc ty_impl_Job [.i .i64 0, .i .i64 0, .i .i64 0, .i .i64 0]⟩,
      ⟨none, none, .st 4 (.t 7) (.t 29)⟩])
    (.seq (.seq (.ops [⟨some 30, none, .fa 0 (.t 7)⟩,
      ⟨some 31, none, .ld (.t 30)⟩,
      ⟨some 32, none, .mv (.t 0)⟩,
      ⟨some 33, none, .len (.t 32)⟩,
      ⟨some 34, none, .bin .sub (.t 33) (.k (.i .i64 1))⟩,
      ⟨some 35, none, .call (.k (.fn n_spec_l1In [] [])) [.t 31, .k (.i .i64 0), .t 34]⟩,
      ⟨some 36, none, .not (.t 35)⟩,
      ⟨some 37, none, .mv (.t 36)⟩,
      ⟨some 38, (some (37, false)), .fa 1 (.t 7)⟩,
      ⟨some 39, (some (37, false)), .ld (.t 38)⟩,
      ⟨some 40, (some (37, false)), .call (.k (.fn n_spec_l1In [] [])) [.t 39, .k (.i .i64 0), .k (.i .i64 119)]⟩,
      ⟨some 41, (some (37, false)), .not (.t 40)⟩,
      ⟨some 42, none, .pick (.t 37) (.k (.b true)) (.t 41)⟩])
    (.cond (.t 42) (.seq (.ops [⟨some 4, none, .mv (.k (.b false))⟩])
    (.ret))
    (.skip)))
    (.seq (.ops [⟨some 43, none, .mv (.t 0)⟩,
      ⟨some 44, none, .fa 0 (.t 7)⟩,
      ⟨some 45, none, .ld (.t 44)⟩,
      ⟨some 46, none, .ia 3 (.t 43) (.t 45)⟩,
      ⟨some 47, none, .ldn 3 (.t 46)⟩,
      ⟨some 8, none, .alloc ty_impl_Task [.i .i64 0, .i .i64 0, .i .i64 0]⟩,
      ⟨none, none, .st 3 (.t 8) (.t 47)⟩])
    (.seq (.seq (.draw 26 [⟨some 48, none, .fa 1 (.t 7)⟩,
      ⟨some 49, none, .ld (.t 48)⟩,
      ⟨some 50, none, .mv (.t 5)⟩,
      ⟨some 51, none, .fa 0 (.t 7)⟩,
      ⟨some 52, none, .ld (.t 51)⟩,
      ⟨some 53, none, .ia 1 (.t 50) (.t 52)⟩,
      ⟨some 54, none, .ld (.t 53)⟩,
      ⟨some 55, none, .bin .lss (.t 49) (.t 54)⟩,
      ⟨some 56, none, .mv (.t 55)⟩,
      ⟨some 57, (some (56, false)), .fa 2 (.t 7)⟩,
      ⟨some 58, (some (56, false)), .ld (.t 57)⟩,
      ⟨some 59, (some (56, false)), .fa 1 (.t 7)⟩,
      ⟨some 60, (some (56, false)), .ld (.t 59)⟩,
      ⟨some 61, (some (56, false)), .fa 1 (.t 8)⟩,
      ⟨some 62, (some (56, false)), .ld (.t 61)⟩,
      ⟨some 63, (some (56, false)), .bin .add (.t 60) (.t 62)⟩,
      ⟨some 64, (some (56, false)), .bin .neq (.t 58) (.t 63)⟩,
      ⟨some 65, none, .pick (.t 56) (.k (.b true)) (.t 64)⟩,
      ⟨some 66, none, .mv (.t 65)⟩,
      ⟨some 67, (some (66, false)), .fa 3 (.t 7)⟩,
      ⟨some 68, (some (66, false)), .ld (.t 67)⟩,
      ⟨some 69, (some (66, false)), .fa 0 (.t 8)⟩,
      ⟨some 70, (some (66, false)), .ld (.t 69)⟩,
      ⟨some 71, (some (66, false)), .call (.k (.fn n_spec_l1In [] [])) [.t 68, .k (.i .i64 1), .t 70]⟩,
      ⟨some 72, (some (66, false)), .not (.t 71)⟩,
      ⟨some 73, none, .pick (.t 66) (.k (.b true)) (.t 72)⟩])
    (.cond (.t 73) (.seq (.ops [⟨some 4, none, .mv (.k (.b false))⟩])
    (.ret))
    (.skip)))
    (.seq (.seq (.draw 35 [⟨some 74, none, .mv (.t 6)⟩,
      ⟨some 75, none, .bin .gtr (.t 74) (.k (.i .i64 0))⟩,
      ⟨some 76, none, .mv (.t 75)⟩,
      ⟨some 77, (some (76, true)), .mv (.t 1)⟩,
      ⟨some 78, (some (76, true)), .mv (.t 6)⟩,
      ⟨some 79, (some (76, true)), .bin .sub (.t 78) (.k (.i .i64 1))⟩,
      ⟨some 80, (some (76, true)), .ia 4 (.t 77) (.t 79)⟩,
      ⟨some 81, (some (76, true)), .fa 1 (.t 80)⟩,
      ⟨some 82, (some (76, true)), .ld (.t 81)⟩,
      ⟨some 83, (some (76, true)), .fa 1 (.t 7)⟩,
      ⟨some 84, (some (76, true)), .ld (.t 83)⟩,
      ⟨some 85, (some (76, true)), .bin .gtr (.t 82) (.t 84)⟩,
      ⟨some 86, (some (76, true)), .mv (.t 85)⟩,
      ⟨some 87, (some (86, false)), .mv (.t 1)⟩,
      ⟨some 88, (some (86, false)), .mv (.t 6)⟩,
      ⟨some 89, (some (86, false)), .bin .sub (.t 88) (.k (.i .i64 1))⟩,
      ⟨some 90, (some (86, false)), .ia 4 (.t 87) (.t 89)⟩,
      ⟨some 91, (some (86, false)), .fa 1 (.t 90)⟩,
      ⟨some 92, (some (86, false)), .ld (.t 91)⟩,
      ⟨some 93, (some (86, false)), .fa 1 (.t 7)⟩,
      ⟨some 94, (some (86, false)), .ld (.t 93)⟩,
      ⟨some 95, (some (86, false)), .bin .eql (.t 92) (.t 94)⟩,
      ⟨some 96, (some (86, false)), .mv (.t 95)⟩,
      ⟨some 97, (some (96, true)), .mv (.t 1)⟩,
      ⟨some 98, (some (96, true)), .mv (.t 6)⟩,
      ⟨some 99, (some (96, true)), .bin .sub (.t 98) (.k (.i .i64 1))⟩,
      ⟨some 100, (some (96, true)), .ia 4 (.t 97) (.t 99)⟩,
      ⟨some 101, (some (96, true)), .fa 0 (.t 100)⟩,
      ⟨some 102, (some (96, true)), .ld (.t 101)⟩,
      ⟨some 103, (some (96, true)), .fa 0 (.t 7)⟩,
      ⟨some 104, (some (96, true)), .ld (.t 103)⟩,
      ⟨some 105, (some (96, true)), .bin .geq (.t 102) (.t 104)⟩,
      ⟨some 106, (some (86, false)), .pick (.t 96) (.t 105) (.k (.b false))⟩,
      ⟨some 107, (some (76, true)), .pick (.t 86) (.k (.b true)) (.t 106)⟩,
      ⟨some 108, none, .pick (.t 76) (.t 107) (.k (.b false))⟩])
    (.cond (.t 108) (.seq (.ops [⟨some 4, none, .mv (.k (.b false))⟩])
    (.ret))
    (.skip)))
    (.ops [⟨some 109, none, .mv (.t 5)⟩,
      ⟨some 110, none, .fa 0 (.t 7)⟩,
      ⟨some 111, none, .ld (.t 110)⟩,
      ⟨some 112, none, .fa 1 (.t 7)⟩,
      ⟨some 113, none, .ld (.t 112)⟩,
      ⟨some 114, none, .fa 2 (.t 8)⟩,
      ⟨some 115, none, .ld (.t 114)⟩,
      ⟨some 116, none, .bin .add (.t 113) (.t 115)⟩,
      ⟨some 117, none, .ia 1 (.t 109) (.t 111)⟩,
      ⟨none, none, .st 1 (.t 117) (.t 116)⟩])))))))
    (.ops [⟨some 24, none, .mv (.t 6)⟩,
      ⟨some 25, none, .bin .add (.t 24) (.k (.i .i64 1))⟩,
      ⟨some 6, none, .mv (.t 25)⟩]))
def c_spec_JobsLegal : LC := .seq (.ops [⟨some 4, none, .mv (.k (.b false))⟩])
    (.seq (.seq (.ops [⟨some 9, none, .mv (.t 0)⟩,
      ⟨some 10, none, .call (.k (.fn n_spec_SetValid [] [])) [.t 9]⟩,
      ⟨some 11, none, .not (.t 10)⟩,
      ⟨some 12, none, .mv (.t 11)⟩,
      ⟨some 13, (some (12, false)), .mv (.t 1)⟩,
      ⟨some 14, (some (12, false)), .len (.t 13)⟩,
      ⟨some 15, (some (12, false)), .bin .gtr (.t 14) (.k (.i .i64 60))⟩,
      ⟨some 16, none, .pick (.t 12) (.k (.b true)) (.t 15)⟩])
    (.cond (.t 16) (.seq (.ops [⟨some 4, none, .mv (.k (.b false))⟩])
    (.ret))
    (.skip)))
    (.seq (.ops [⟨some 17, none, .mv (.t 0)⟩,
      ⟨some 18, none, .len (.t 17)⟩,
      ⟨some 19, none, .msl ty_int 8 [.i .i64 0] (.t 18)⟩,
      ⟨some 5, none, .mv (.t 19)⟩])
    (.seq (.seq (.ops [⟨some 6, none, .mv (.k (.i .i64 0))⟩])
    (.block 0 (.loop l0_spec_JobsLegal)))
    (.seq (.ops [⟨some 4, none, .mv (.k (.b true))⟩])
    (.ret)))))
theorem k_spec_JobsLegal : chkF Try.prog Try.f20 118 c_spec_JobsLegal [.t 4] = true := by kernel_rfl
theorem call_spec_JobsLegal {args : List AV} {σ : List AB} {K : AV → List AB → Prop} (hn : args.length ≤ 118) (hw : wpC Try.prog σ.length 118 c_spec_JobsLegal (retP σ.length [.t 4] K) ⟨initT 0 args, σ⟩) : CallWp Try.prog n_spec_JobsLegal args σ K := call_fn mixed Try.func20 k_spec_JobsLegal hn hw
theorem callC_spec_JobsLegal {args : List AV} {σ : List AB} {K : AV → List AB → Prop} (hn : args.length ≤ 118) (hw : Closed σ → args.all (below1 σ.length) = true → wpC Try.prog σ.length 118 c_spec_JobsLegal (retP σ.length [.t 4] K) ⟨initT 0 args, σ⟩) : CallWp Try.prog n_spec_JobsLegal args σ K := call_fnC mixed Try.func20 k_spec_JobsLegal hn hw

-- loop.example/deadlinescheduler/laws.sameInts
-- region 6 draws, 9 of 9 first
-- l0_laws_sameInts: live at the head: 0 1 5
def l0_laws_sameInts : LC := .seq (.seq (.ops [⟨some 11, none, .mv (.t 5)⟩,
      ⟨some 12, none, .mv (.t 0)⟩,
      ⟨some 13, none, .len (.t 12)⟩,
      ⟨some 14, none, .bin .lss (.t 11) (.t 13)⟩])
    (.cond (.t 14) (.skip)
    (.exit 0)))
    (.seq (.block 1 (.seq (.draw 9 [⟨some 17, none, .mv (.t 0)⟩,
      ⟨some 18, none, .mv (.t 5)⟩,
      ⟨some 19, none, .ia 1 (.t 17) (.t 18)⟩,
      ⟨some 20, none, .ld (.t 19)⟩,
      ⟨some 21, none, .mv (.t 1)⟩,
      ⟨some 22, none, .mv (.t 5)⟩,
      ⟨some 23, none, .ia 1 (.t 21) (.t 22)⟩,
      ⟨some 24, none, .ld (.t 23)⟩,
      ⟨some 25, none, .bin .neq (.t 20) (.t 24)⟩])
    (.cond (.t 25) (.seq (.ops [⟨some 4, none, .mv (.k (.b false))⟩])
    (.ret))
    (.skip))))
    (.ops [⟨some 15, none, .mv (.t 5)⟩,
      ⟨some 16, none, .bin .add (.t 15) (.k (.i .i64 1))⟩,
      ⟨some 5, none, .mv (.t 16)⟩]))
def c_laws_sameInts : LC := .seq (.ops [⟨some 4, none, .mv (.k (.b false))⟩])
    (.seq (.seq (.ops [⟨some 6, none, .mv (.t 0)⟩,
      ⟨some 7, none, .len (.t 6)⟩,
      ⟨some 8, none, .mv (.t 1)⟩,
      ⟨some 9, none, .len (.t 8)⟩,
      ⟨some 10, none, .bin .neq (.t 7) (.t 9)⟩])
    (.cond (.t 10) (.seq (.ops [⟨some 4, none, .mv (.k (.b false))⟩])
    (.ret))
    (.skip)))
    (.seq (.seq (.ops [⟨some 5, none, .mv (.k (.i .i64 0))⟩])
    (.block 0 (.loop l0_laws_sameInts)))
    (.seq (.ops [⟨some 4, none, .mv (.k (.b true))⟩])
    (.ret))))
theorem k_laws_sameInts : chkF Try.prog Try.f21 26 c_laws_sameInts [.t 4] = true := by kernel_rfl
theorem call_laws_sameInts {args : List AV} {σ : List AB} {K : AV → List AB → Prop} (hn : args.length ≤ 26) (hw : wpC Try.prog σ.length 26 c_laws_sameInts (retP σ.length [.t 4] K) ⟨initT 0 args, σ⟩) : CallWp Try.prog n_laws_sameInts args σ K := call_fn mixed Try.func21 k_laws_sameInts hn hw
theorem callC_laws_sameInts {args : List AV} {σ : List AB} {K : AV → List AB → Prop} (hn : args.length ≤ 26) (hw : Closed σ → args.all (below1 σ.length) = true → wpC Try.prog σ.length 26 c_laws_sameInts (retP σ.length [.t 4] K) ⟨initT 0 args, σ⟩) : CallWp Try.prog n_laws_sameInts args σ K := call_fnC mixed Try.func21 k_laws_sameInts hn hw

-- loop.example/deadlinescheduler/impl.Missed
def c_impl_Missed : LC := .seq (.ops [⟨some 3, none, .box ty_impl_Schedule (.t 1)⟩,
      ⟨some 4, none, .mv (.k (.sn))⟩])
    (.seq (.ops [⟨some 5, none, .mv (.t 0)⟩,
      ⟨some 6, none, .fa 1 (.t 3)⟩,
      ⟨some 7, none, .ld (.t 6)⟩,
      ⟨some 8, none, .call (.k (.fn n_impl_missed [] [])) [.t 5, .t 7]⟩,
      ⟨some 4, none, .mv (.t 8)⟩])
    (.ret))
theorem k_impl_Missed : chkF Try.prog Try.f22 9 c_impl_Missed [.t 4] = true := by kernel_rfl
theorem call_impl_Missed {args : List AV} {σ : List AB} {K : AV → List AB → Prop} (hn : args.length ≤ 9) (hw : wpC Try.prog σ.length 9 c_impl_Missed (retP σ.length [.t 4] K) ⟨initT 0 args, σ⟩) : CallWp Try.prog n_impl_Missed args σ K := call_fn mixed Try.func22 k_impl_Missed hn hw
theorem callC_impl_Missed {args : List AV} {σ : List AB} {K : AV → List AB → Prop} (hn : args.length ≤ 9) (hw : Closed σ → args.all (below1 σ.length) = true → wpC Try.prog σ.length 9 c_impl_Missed (retP σ.length [.t 4] K) ⟨initT 0 args, σ⟩) : CallWp Try.prog n_impl_Missed args σ K := call_fnC mixed Try.func22 k_impl_Missed hn hw

-- loop.example/deadlinescheduler/impl.RunEdf
def c_impl_RunEdf : LC := .seq (.ops [⟨some 4, none, .alloc ty_impl_Schedule [.sn, .sn]⟩])
    (.seq (.seq (.ops [⟨some 5, none, .mv (.t 0)⟩,
      ⟨some 6, none, .mv (.t 1)⟩,
      ⟨some 7, none, .call (.k (.fn n_impl_JobsLegal [] [])) [.t 5, .t 6]⟩,
      ⟨some 8, none, .not (.t 7)⟩])
    (.cond (.t 8) (.seq (.ops [⟨some 9, none, .build [.sn, .sn] []⟩,
      ⟨none, none, .st 2 (.t 4) (.t 9)⟩])
    (.ret))
    (.skip)))
    (.seq (.ops [⟨some 10, none, .mv (.t 1)⟩,
      ⟨some 11, none, .call (.k (.fn n_impl_simulate [] [])) [.t 10, .k (.fn n_impl_edf [] [])]⟩,
      ⟨none, none, .st 2 (.t 4) (.t 11)⟩])
    (.ret)))
theorem k_impl_RunEdf : chkF Try.prog Try.f23 12 c_impl_RunEdf [.c 4 (some 2)] = true := by kernel_rfl
theorem call_impl_RunEdf {args : List AV} {σ : List AB} {K : AV → List AB → Prop} (hn : args.length ≤ 12) (hw : wpC Try.prog σ.length 12 c_impl_RunEdf (retP σ.length [.c 4 (some 2)] K) ⟨initT 0 args, σ⟩) : CallWp Try.prog n_impl_RunEdf args σ K := call_fn mixed Try.func23 k_impl_RunEdf hn hw
theorem callC_impl_RunEdf {args : List AV} {σ : List AB} {K : AV → List AB → Prop} (hn : args.length ≤ 12) (hw : Closed σ → args.all (below1 σ.length) = true → wpC Try.prog σ.length 12 c_impl_RunEdf (retP σ.length [.c 4 (some 2)] K) ⟨initT 0 args, σ⟩) : CallWp Try.prog n_impl_RunEdf args σ K := call_fnC mixed Try.func23 k_impl_RunEdf hn hw

-- loop.example/deadlinescheduler/impl.FixedFeasible
def c_impl_FixedFeasible : LC := .seq (.ops [⟨some 4, none, .mv (.k (.b false))⟩])
    (.seq (.ops [⟨some 5, none, .mv (.t 0)⟩,
      ⟨some 6, none, .mv (.t 1)⟩,
      ⟨some 7, none, .call (.k (.fn n_impl_OrderValid [] [])) [.t 5, .t 6]⟩,
      ⟨some 8, none, .mv (.t 7)⟩,
      ⟨some 9, (some (8, true)), .mv (.t 0)⟩,
      ⟨some 10, (some (8, true)), .mv (.t 1)⟩,
      ⟨some 11, (some (8, true)), .call (.k (.fn n_impl_ResponseTimes [] [])) [.t 9, .t 10]⟩,
      ⟨some 12, (some (8, true)), .call (.k (.fn n_slices_Contains_int [] [])) [.t 11, .k (.i .i64 (-1))]⟩,
      ⟨some 13, (some (8, true)), .not (.t 12)⟩,
      ⟨some 14, none, .pick (.t 8) (.t 13) (.k (.b false))⟩,
      ⟨some 4, none, .mv (.t 14)⟩])
    (.ret))
theorem k_impl_FixedFeasible : chkF Try.prog Try.f24 15 c_impl_FixedFeasible [.t 4] = true := by kernel_rfl
theorem call_impl_FixedFeasible {args : List AV} {σ : List AB} {K : AV → List AB → Prop} (hn : args.length ≤ 15) (hw : wpC Try.prog σ.length 15 c_impl_FixedFeasible (retP σ.length [.t 4] K) ⟨initT 0 args, σ⟩) : CallWp Try.prog n_impl_FixedFeasible args σ K := call_fn mixed Try.func24 k_impl_FixedFeasible hn hw
theorem callC_impl_FixedFeasible {args : List AV} {σ : List AB} {K : AV → List AB → Prop} (hn : args.length ≤ 15) (hw : Closed σ → args.all (below1 σ.length) = true → wpC Try.prog σ.length 15 c_impl_FixedFeasible (retP σ.length [.t 4] K) ⟨initT 0 args, σ⟩) : CallWp Try.prog n_impl_FixedFeasible args σ K := call_fnC mixed Try.func24 k_impl_FixedFeasible hn hw

-- loop.example/deadlinescheduler/impl.ResponseTimes
def c_impl_ResponseTimes : LC := .seq (.ops [⟨some 4, none, .mv (.k (.sn))⟩])
    (.seq (.seq (.ops [⟨some 5, none, .mv (.t 0)⟩,
      ⟨some 6, none, .mv (.t 1)⟩,
      ⟨some 7, none, .call (.k (.fn n_impl_OrderValid [] [])) [.t 5, .t 6]⟩,
      ⟨some 8, none, .not (.t 7)⟩])
    (.cond (.t 8) (.seq (.ops [⟨some 4, none, .mv (.k (.sn))⟩])
    (.ret))
    (.skip)))
    (.seq (.ops [⟨some 9, none, .mv (.t 0)⟩,
      ⟨some 10, none, .mv (.t 0)⟩,
      ⟨some 11, none, .len (.t 10)⟩,
      ⟨some 12, none, .msl ty_int 8 [.i .i64 0] (.t 11)⟩,
      ⟨some 13, none, .mv (.t 1)⟩,
      ⟨some 14, none, .call (.k (.fn n_impl_responses [] [])) [.t 9, .t 12, .t 13]⟩,
      ⟨some 4, none, .mv (.t 14)⟩])
    (.ret)))
theorem k_impl_ResponseTimes : chkF Try.prog Try.f25 15 c_impl_ResponseTimes [.t 4] = true := by kernel_rfl
theorem call_impl_ResponseTimes {args : List AV} {σ : List AB} {K : AV → List AB → Prop} (hn : args.length ≤ 15) (hw : wpC Try.prog σ.length 15 c_impl_ResponseTimes (retP σ.length [.t 4] K) ⟨initT 0 args, σ⟩) : CallWp Try.prog n_impl_ResponseTimes args σ K := call_fn mixed Try.func25 k_impl_ResponseTimes hn hw
theorem callC_impl_ResponseTimes {args : List AV} {σ : List AB} {K : AV → List AB → Prop} (hn : args.length ≤ 15) (hw : Closed σ → args.all (below1 σ.length) = true → wpC Try.prog σ.length 15 c_impl_ResponseTimes (retP σ.length [.t 4] K) ⟨initT 0 args, σ⟩) : CallWp Try.prog n_impl_ResponseTimes args σ K := call_fnC mixed Try.func25 k_impl_ResponseTimes hn hw

-- loop.example/deadlinescheduler/spec.DrawFirstOverload
def c_spec_DrawFirstOverload : LC := .seq (.ops [⟨some 2, none, .mv (.k (.sn))⟩])
    (.seq (.ops [⟨some 3, none, .mv (.t 0)⟩,
      ⟨some 4, none, .call (.k (.fn n_spec_l20Open [] [])) [.t 3]⟩,
      ⟨some 5, none, .call (.k (.fn n_spec_l20Set [] [])) [.t 4, .k (.i .i64 12)]⟩,
      ⟨some 2, none, .mv (.t 5)⟩])
    (.ret))
theorem k_spec_DrawFirstOverload : chkF Try.prog Try.f26 6 c_spec_DrawFirstOverload [.t 2] = true := by kernel_rfl
theorem call_spec_DrawFirstOverload {args : List AV} {σ : List AB} {K : AV → List AB → Prop} (hn : args.length ≤ 6) (hw : wpC Try.prog σ.length 6 c_spec_DrawFirstOverload (retP σ.length [.t 2] K) ⟨initT 0 args, σ⟩) : CallWp Try.prog n_spec_DrawFirstOverload args σ K := call_fn mixed Try.func26 k_spec_DrawFirstOverload hn hw
theorem callC_spec_DrawFirstOverload {args : List AV} {σ : List AB} {K : AV → List AB → Prop} (hn : args.length ≤ 6) (hw : Closed σ → args.all (below1 σ.length) = true → wpC Try.prog σ.length 6 c_spec_DrawFirstOverload (retP σ.length [.t 2] K) ⟨initT 0 args, σ⟩) : CallWp Try.prog n_spec_DrawFirstOverload args σ K := call_fnC mixed Try.func26 k_spec_DrawFirstOverload hn hw

-- loop.example/deadlinescheduler/impl.FirstOverload
-- l0_impl_FirstOverload: live at the head: 0 3
def l0_impl_FirstOverload : LC := .seq (.seq (.ops [⟨some 7, none, .mv (.t 3)⟩,
      ⟨some 8, none, .mv (.t 0)⟩,
      ⟨some 9, none, .call (.k (.fn n_impl_hyper [] [])) [.t 8]⟩,
      ⟨some 10, none, .bin .leq (.t 7) (.t 9)⟩])
    (.cond (.t 10) (.skip)
    (.exit 0)))
    (.seq (.block 1 (.seq (.ops [⟨some 13, none, .mv (.t 0)⟩,
      ⟨some 14, none, .mv (.t 3)⟩,
      ⟨some 15, none, .call (.k (.fn n_impl_demand [] [])) [.t 13, .t 14]⟩,
      ⟨some 16, none, .mv (.t 3)⟩,
      ⟨some 17, none, .bin .gtr (.t 15) (.t 16)⟩])
    (.cond (.t 17) (.seq (.ops [⟨some 18, none, .mv (.t 3)⟩,
      ⟨some 2, none, .mv (.t 18)⟩])
    (.ret))
    (.skip))))
    (.ops [⟨some 11, none, .mv (.t 3)⟩,
      ⟨some 12, none, .bin .add (.t 11) (.k (.i .i64 1))⟩,
      ⟨some 3, none, .mv (.t 12)⟩]))
def c_impl_FirstOverload : LC := .seq (.ops [⟨some 2, none, .mv (.k (.i .i64 0))⟩])
    (.seq (.seq (.ops [⟨some 4, none, .mv (.t 0)⟩,
      ⟨some 5, none, .call (.k (.fn n_impl_SetValid [] [])) [.t 4]⟩,
      ⟨some 6, none, .not (.t 5)⟩])
    (.cond (.t 6) (.seq (.ops [⟨some 2, none, .mv (.k (.i .i64 (-1)))⟩])
    (.ret))
    (.skip)))
    (.seq (.seq (.ops [⟨some 3, none, .mv (.k (.i .i64 1))⟩])
    (.block 0 (.loop l0_impl_FirstOverload)))
    (.seq (.ops [⟨some 2, none, .mv (.k (.i .i64 (-1)))⟩])
    (.ret))))
theorem k_impl_FirstOverload : chkF Try.prog Try.f27 19 c_impl_FirstOverload [.t 2] = true := by kernel_rfl
theorem call_impl_FirstOverload {args : List AV} {σ : List AB} {K : AV → List AB → Prop} (hn : args.length ≤ 19) (hw : wpC Try.prog σ.length 19 c_impl_FirstOverload (retP σ.length [.t 2] K) ⟨initT 0 args, σ⟩) : CallWp Try.prog n_impl_FirstOverload args σ K := call_fn mixed Try.func27 k_impl_FirstOverload hn hw
theorem callC_impl_FirstOverload {args : List AV} {σ : List AB} {K : AV → List AB → Prop} (hn : args.length ≤ 19) (hw : Closed σ → args.all (below1 σ.length) = true → wpC Try.prog σ.length 19 c_impl_FirstOverload (retP σ.length [.t 2] K) ⟨initT 0 args, σ⟩) : CallWp Try.prog n_impl_FirstOverload args σ K := call_fnC mixed Try.func27 k_impl_FirstOverload hn hw

-- loop.example/deadlinescheduler/spec.FirstOverload
def c_spec_FirstOverload : LC := .seq (.ops [⟨some 2, none, .mv (.k (.i .i64 0))⟩])
    (.seq (.seq (.ops [⟨some 3, none, .mv (.t 0)⟩,
      ⟨some 4, none, .call (.k (.fn n_spec_SetValid [] [])) [.t 3]⟩,
      ⟨some 5, none, .not (.t 4)⟩])
    (.cond (.t 5) (.seq (.ops [⟨some 2, none, .mv (.k (.i .i64 (-1)))⟩])
    (.ret))
    (.skip)))
    (.seq (.ops [⟨some 6, none, .mv (.t 0)⟩,
      ⟨some 7, none, .mv (.t 0)⟩,
      ⟨some 8, none, .call (.k (.fn n_spec_l1Hyper [] [])) [.t 7]⟩,
      ⟨some 9, none, .call (.k (.fn n_spec_l2Overload [] [])) [.t 6, .t 8]⟩,
      ⟨some 2, none, .mv (.t 9)⟩])
    (.ret)))
theorem k_spec_FirstOverload : chkF Try.prog Try.f28 10 c_spec_FirstOverload [.t 2] = true := by kernel_rfl
theorem call_spec_FirstOverload {args : List AV} {σ : List AB} {K : AV → List AB → Prop} (hn : args.length ≤ 10) (hw : wpC Try.prog σ.length 10 c_spec_FirstOverload (retP σ.length [.t 2] K) ⟨initT 0 args, σ⟩) : CallWp Try.prog n_spec_FirstOverload args σ K := call_fn mixed Try.func28 k_spec_FirstOverload hn hw
theorem callC_spec_FirstOverload {args : List AV} {σ : List AB} {K : AV → List AB → Prop} (hn : args.length ≤ 10) (hw : Closed σ → args.all (below1 σ.length) = true → wpC Try.prog σ.length 10 c_spec_FirstOverload (retP σ.length [.t 2] K) ⟨initT 0 args, σ⟩) : CallWp Try.prog n_spec_FirstOverload args σ K := call_fnC mixed Try.func28 k_spec_FirstOverload hn hw

-- loop.example/deadlinescheduler/impl.Synchronous
-- l1_impl_Synchronous: live at the head: 0 1 5 6 35 36 37 38 39 40 43 44 45
-- l0_impl_Synchronous: live at the head: 0 1 5 6 22 23 24 35 36 37 38 39 40 43 44 45
def l0_impl_Synchronous : LC := .seq (.ops [⟨some 25, none, .bin .lss (.t 24) (.t 23)⟩])
    (.seq (.cond (.t 25) (.skip)
    (.exit 2))
    (.seq (.block 3 (.seq (.ops [⟨some 26, none, .mv (.t 24)⟩,
      ⟨some 27, none, .ia 3 (.t 22) (.t 24)⟩,
      ⟨some 28, none, .ldn 3 (.t 27)⟩,
      ⟨some 8, none, .alloc ty_impl_Task [.i .i64 0, .i .i64 0, .i .i64 0]⟩,
      ⟨some 7, none, .mv (.t 26)⟩,
      ⟨none, none, .st 3 (.t 8) (.t 28)⟩])
    (.seq (.ops [⟨some 29, none, .mv (.t 6)⟩,
      ⟨some 30, none, .fa 2 (.t 8)⟩,
      ⟨some 31, none, .ld (.t 30)⟩,
      ⟨some 32, none, .bin .rem (.t 29) (.t 31)⟩,
      ⟨some 33, none, .bin .eql (.t 32) (.k (.i .i64 0))⟩,
      ⟨some 34, none, .mv (.t 33)⟩,
      ⟨some 35, (some (34, true)), .mv (.t 6)⟩,
      ⟨some 36, (some (34, true)), .fa 1 (.t 8)⟩,
      ⟨some 37, (some (34, true)), .ld (.t 36)⟩,
      ⟨some 38, (some (34, true)), .bin .add (.t 35) (.t 37)⟩,
      ⟨some 39, (some (34, true)), .mv (.t 1)⟩,
      ⟨some 40, (some (34, true)), .bin .leq (.t 38) (.t 39)⟩,
      ⟨some 41, none, .pick (.t 34) (.t 40) (.k (.b false))⟩,
      ⟨some 42, none, .mv (.t 41)⟩,
      ⟨some 43, (some (42, true)), .mv (.t 5)⟩,
      ⟨some 44, (some (42, true)), .len (.t 43)⟩,
      ⟨some 45, (some (42, true)), .bin .lss (.t 44) (.k (.i .i64 60))⟩,
      ⟨some 46, none, .pick (.t 42) (.t 45) (.k (.b false))⟩])
    (.cond (.t 46) (.ops [⟨some 47, none, .mv (.t 5)⟩,
      ⟨some 48, none, .mv (.t 7)⟩,
      ⟨some 49, none, .mv (.t 6)⟩,
      ⟨some 50, none, .mv (.t 6)⟩,
      ⟨some 51, none, .fa 1 (.t 8)⟩,
      ⟨some 52, none, .ld (.t 51)⟩,
      ⟨some 53, none, .bin .add (.t 50) (.t 52)⟩,
      ⟨some 54, none, .fa 0 (.t 8)⟩,
      ⟨some 55, none, .ld (.t 54)⟩,
      ⟨some 56, none, .build [.i .i64 0, .i .i64 0, .i .i64 0, .i .i64 0] [(0, 1, .t 48), (1, 1, .t 49), (2, 1, .t 53), (3, 1, .t 55)]⟩,
      ⟨some 57, none, .bsl ty_impl_Job [.i .i64 0, .i .i64 0, .i .i64 0, .i .i64 0] 1 [(0, 4, .t 56)]⟩,
      ⟨some 58, none, .app ty_impl_Job 4 32 (.t 47) (.t 57)⟩,
      ⟨some 5, none, .mv (.t 58)⟩])
    (.skip)))))
    (.ops [⟨some 59, none, .bin .add (.t 24) (.k (.i .i64 1))⟩,
      ⟨some 24, none, .mv (.t 59)⟩])))
def l1_impl_Synchronous : LC := .seq (.seq (.ops [⟨some 17, none, .mv (.t 6)⟩,
      ⟨some 18, none, .mv (.t 1)⟩,
      ⟨some 19, none, .bin .lss (.t 17) (.t 18)⟩])
    (.cond (.t 19) (.skip)
    (.exit 0)))
    (.seq (.block 1 (.seq (.ops [⟨some 22, none, .mv (.t 0)⟩,
      ⟨some 23, none, .len (.t 22)⟩,
      ⟨some 24, none, .mv (.k (.i .i64 0))⟩])
    (.block 2 (.loop l0_impl_Synchronous))))
    (.ops [⟨some 20, none, .mv (.t 6)⟩,
      ⟨some 21, none, .bin .add (.t 20) (.k (.i .i64 1))⟩,
      ⟨some 6, none, .mv (.t 21)⟩]))
def c_impl_Synchronous : LC := .seq (.ops [⟨some 4, none, .mv (.k (.sn))⟩])
    (.seq (.seq (.ops [⟨some 9, none, .mv (.t 0)⟩,
      ⟨some 10, none, .call (.k (.fn n_impl_SetValid [] [])) [.t 9]⟩,
      ⟨some 11, none, .not (.t 10)⟩,
      ⟨some 12, none, .mv (.t 11)⟩,
      ⟨some 13, (some (12, false)), .mv (.t 1)⟩,
      ⟨some 14, (some (12, false)), .call (.k (.fn n_impl_in [] [])) [.t 13, .k (.i .i64 0), .k (.i .i64 120)]⟩,
      ⟨some 15, (some (12, false)), .not (.t 14)⟩,
      ⟨some 16, none, .pick (.t 12) (.k (.b true)) (.t 15)⟩])
    (.cond (.t 16) (.seq (.ops [⟨some 4, none, .mv (.k (.sn))⟩])
    (.ret))
    (.skip)))
    (.seq (.ops [⟨some 5, none, .mv (.k (.sn))⟩])
    (.seq (.seq (.ops [⟨some 6, none, .mv (.k (.i .i64 0))⟩])
    (.block 0 (.loop l1_impl_Synchronous)))
    (.seq (.ops [⟨some 60, none, .mv (.t 5)⟩,
      ⟨some 61, none, .call (.k (.fn n_slices_Clip_impl_Job [] [])) [.t 60]⟩,
      ⟨some 4, none, .mv (.t 61)⟩])
    (.ret)))))
theorem k_impl_Synchronous : chkF Try.prog Try.f29 62 c_impl_Synchronous [.t 4] = true := by kernel_rfl
theorem call_impl_Synchronous {args : List AV} {σ : List AB} {K : AV → List AB → Prop} (hn : args.length ≤ 62) (hw : wpC Try.prog σ.length 62 c_impl_Synchronous (retP σ.length [.t 4] K) ⟨initT 0 args, σ⟩) : CallWp Try.prog n_impl_Synchronous args σ K := call_fn mixed Try.func29 k_impl_Synchronous hn hw
theorem callC_impl_Synchronous {args : List AV} {σ : List AB} {K : AV → List AB → Prop} (hn : args.length ≤ 62) (hw : Closed σ → args.all (below1 σ.length) = true → wpC Try.prog σ.length 62 c_impl_Synchronous (retP σ.length [.t 4] K) ⟨initT 0 args, σ⟩) : CallWp Try.prog n_impl_Synchronous args σ K := call_fnC mixed Try.func29 k_impl_Synchronous hn hw

-- loop.example/deadlinescheduler/impl.DeadlineMonotonic
def c_impl_DeadlineMonotonic : LC := .seq (.ops [⟨some 1, none, .box ty_sl_impl_Task (.t 0)⟩,
      ⟨some 2, none, .mv (.k (.sn))⟩])
    (.seq (.seq (.ops [⟨some 4, none, .ld (.t 1)⟩,
      ⟨some 5, none, .call (.k (.fn n_impl_SetValid [] [])) [.t 4]⟩,
      ⟨some 6, none, .not (.t 5)⟩])
    (.cond (.t 6) (.seq (.ops [⟨some 2, none, .mv (.k (.sn))⟩])
    (.ret))
    (.skip)))
    (.seq (.ops [⟨some 7, none, .ld (.t 1)⟩,
      ⟨some 8, none, .len (.t 7)⟩,
      ⟨some 9, none, .call (.k (.fn n_impl_indices [] [])) [.t 8]⟩,
      ⟨some 3, none, .mv (.t 9)⟩])
    (.seq (.ops [⟨some 10, none, .mv (.t 3)⟩,
      ⟨some 11, none, .mkf n_impl_DeadlineMonotonic_1 [] [.t 1]⟩,
      ⟨some 12, none, .call (.k (.fn n_slices_SortStableFunc_int [] [])) [.t 10, .t 11]⟩])
    (.seq (.ops [⟨some 13, none, .mv (.t 3)⟩,
      ⟨some 2, none, .mv (.t 13)⟩])
    (.ret)))))
theorem k_impl_DeadlineMonotonic : chkF Try.prog Try.f30 14 c_impl_DeadlineMonotonic [.t 2] = true := by kernel_rfl
theorem call_impl_DeadlineMonotonic {args : List AV} {σ : List AB} {K : AV → List AB → Prop} (hn : args.length ≤ 14) (hw : wpC Try.prog σ.length 14 c_impl_DeadlineMonotonic (retP σ.length [.t 2] K) ⟨initT 0 args, σ⟩) : CallWp Try.prog n_impl_DeadlineMonotonic args σ K := call_fn mixed Try.func30 k_impl_DeadlineMonotonic hn hw
theorem callC_impl_DeadlineMonotonic {args : List AV} {σ : List AB} {K : AV → List AB → Prop} (hn : args.length ≤ 14) (hw : Closed σ → args.all (below1 σ.length) = true → wpC Try.prog σ.length 14 c_impl_DeadlineMonotonic (retP σ.length [.t 2] K) ⟨initT 0 args, σ⟩) : CallWp Try.prog n_impl_DeadlineMonotonic args σ K := call_fnC mixed Try.func30 k_impl_DeadlineMonotonic hn hw

-- loop.example/deadlinescheduler/impl.JobsLegal
def c_impl_JobsLegal : LC := .seq (.ops [⟨some 2, none, .box ty_sl_impl_Task (.t 0)⟩,
      ⟨some 4, none, .mv (.k (.b false))⟩])
    (.seq (.ops [⟨some 5, none, .ld (.t 2)⟩,
      ⟨some 6, none, .call (.k (.fn n_impl_SetValid [] [])) [.t 5]⟩,
      ⟨some 7, none, .mv (.t 6)⟩,
      ⟨some 8, (some (7, true)), .mv (.t 1)⟩,
      ⟨some 9, (some (7, true)), .ld (.t 2)⟩,
      ⟨some 10, (some (7, true)), .len (.t 9)⟩,
      ⟨some 11, (some (7, true)), .mkf n_impl_JobsLegal_1 [] [.t 2]⟩,
      ⟨some 12, (some (7, true)), .call (.k (.fn n_impl_ordered [] [])) [.t 8, .t 10, .t 11]⟩,
      ⟨some 13, none, .pick (.t 7) (.t 12) (.k (.b false))⟩,
      ⟨some 14, none, .mv (.t 13)⟩,
      ⟨some 15, (some (14, true)), .mv (.t 1)⟩,
      ⟨some 16, (some (14, true)), .mkf n_impl_JobsLegal_2 [] [.t 2]⟩,
      ⟨some 17, (some (14, true)), .call (.k (.fn n_impl_spaced [] [])) [.t 15, .k (.fn n_impl_release [] []), .t 16]⟩,
      ⟨some 18, none, .pick (.t 14) (.t 17) (.k (.b false))⟩,
      ⟨some 19, none, .mv (.t 18)⟩,
      ⟨some 20, (some (19, true)), .mv (.t 1)⟩,
      ⟨some 21, (some (19, true)), .mkf n_impl_JobsLegal_3 [] [.t 2]⟩,
      ⟨some 22, (some (19, true)), .call (.k (.fn n_slices_ContainsFunc_impl_Job [] [])) [.t 20, .t 21]⟩,
      ⟨some 23, (some (19, true)), .not (.t 22)⟩,
      ⟨some 24, none, .pick (.t 19) (.t 23) (.k (.b false))⟩,
      ⟨some 4, none, .mv (.t 24)⟩])
    (.ret))
theorem k_impl_JobsLegal : chkF Try.prog Try.f31 25 c_impl_JobsLegal [.t 4] = true := by kernel_rfl
theorem call_impl_JobsLegal {args : List AV} {σ : List AB} {K : AV → List AB → Prop} (hn : args.length ≤ 25) (hw : wpC Try.prog σ.length 25 c_impl_JobsLegal (retP σ.length [.t 4] K) ⟨initT 0 args, σ⟩) : CallWp Try.prog n_impl_JobsLegal args σ K := call_fn mixed Try.func31 k_impl_JobsLegal hn hw
theorem callC_impl_JobsLegal {args : List AV} {σ : List AB} {K : AV → List AB → Prop} (hn : args.length ≤ 25) (hw : Closed σ → args.all (below1 σ.length) = true → wpC Try.prog σ.length 25 c_impl_JobsLegal (retP σ.length [.t 4] K) ⟨initT 0 args, σ⟩) : CallWp Try.prog n_impl_JobsLegal args σ K := call_fnC mixed Try.func31 k_impl_JobsLegal hn hw

-- loop.example/deadlinescheduler/spec.DrawResponseTimes
def c_spec_DrawResponseTimes : LC := .seq (.ops [⟨some 2, none, .mv (.k (.sn))⟩,
      ⟨some 3, none, .mv (.k (.sn))⟩])
    (.seq (.ops [⟨some 6, none, .mv (.t 0)⟩,
      ⟨some 7, none, .call (.k (.fn n_spec_l20Open [] [])) [.t 6]⟩,
      ⟨some 4, none, .mv (.t 7)⟩])
    (.seq (.ops [⟨some 8, none, .mv (.t 4)⟩,
      ⟨some 9, none, .call (.k (.fn n_spec_l20Set [] [])) [.t 8, .k (.i .i64 20)]⟩,
      ⟨some 5, none, .mv (.t 9)⟩])
    (.seq (.ops [⟨some 10, none, .mv (.t 5)⟩,
      ⟨some 11, none, .mv (.t 4)⟩,
      ⟨some 12, none, .mv (.t 5)⟩,
      ⟨some 13, none, .len (.t 12)⟩,
      ⟨some 14, none, .call (.k (.fn n_spec_l20Order [] [])) [.t 11, .t 13, .k (.i .i64 12)]⟩,
      ⟨some 2, none, .mv (.t 10)⟩,
      ⟨some 3, none, .mv (.t 14)⟩])
    (.ret))))
theorem k_spec_DrawResponseTimes : chkF Try.prog Try.f32 15 c_spec_DrawResponseTimes [.t 2, .t 3] = true := by kernel_rfl
theorem call_spec_DrawResponseTimes {args : List AV} {σ : List AB} {K : AV → List AB → Prop} (hn : args.length ≤ 15) (hw : wpC Try.prog σ.length 15 c_spec_DrawResponseTimes (retP σ.length [.t 2, .t 3] K) ⟨initT 0 args, σ⟩) : CallWp Try.prog n_spec_DrawResponseTimes args σ K := call_fn mixed Try.func32 k_spec_DrawResponseTimes hn hw
theorem callC_spec_DrawResponseTimes {args : List AV} {σ : List AB} {K : AV → List AB → Prop} (hn : args.length ≤ 15) (hw : Closed σ → args.all (below1 σ.length) = true → wpC Try.prog σ.length 15 c_spec_DrawResponseTimes (retP σ.length [.t 2, .t 3] K) ⟨initT 0 args, σ⟩) : CallWp Try.prog n_spec_DrawResponseTimes args σ K := call_fnC mixed Try.func32 k_spec_DrawResponseTimes hn hw

-- loop.example/deadlinescheduler/spec.ResponseTimes
-- region 7: a plan with 1 orders
-- l0_spec_ResponseTimes: live at the head: 0 1 5 6
def l0_spec_ResponseTimes : LC := .seq (.seq (.ops [⟨some 15, none, .mv (.t 6)⟩,
      ⟨some 16, none, .mv (.t 1)⟩,
      ⟨some 17, none, .len (.t 16)⟩,
      ⟨some 18, none, .bin .lss (.t 15) (.t 17)⟩])
    (.cond (.t 18) (.skip)
    (.exit 0)))
    (.seq (.block 1 (.plan [0, 1, 2, 3, 4, 5, 6, 7, 8, 9, 10, 11, 12] [⟨some 21, none, .mv (.t 5)⟩,
      ⟨some 22, none, .mv (.t 1)⟩,
      ⟨some 23, none, .mv (.t 6)⟩,
      ⟨some 24, none, .ia 1 (.t 22) (.t 23)⟩,
      ⟨some 25, none, .ld (.t 24)⟩,
      ⟨some 26, none, .mv (.t 0)⟩,
      ⟨some 27, none, .mv (.t 1)⟩,
      ⟨some 28, none, .mv (.t 6)⟩,
      ⟨some 29, none, .slc 1 (.t 27) none (some (.t 28)) none⟩,
      ⟨some 30, none, .mv (.t 1)⟩,
      ⟨some 31, none, .mv (.t 6)⟩,
      ⟨some 32, none, .ia 1 (.t 30) (.t 31)⟩,
      ⟨some 33, none, .ld (.t 32)⟩]
      (.one 13 ⟨some 34, none, .call (.k (.fn n_spec_l4Response [] [])) [.t 26, .t 29, .t 33]⟩ [(25, none, 24)] [14]
        [⟨some 35, none, .ia 1 (.t 21) (.t 25)⟩]
      (.one 15 ⟨none, none, .st 1 (.t 35) (.t 34)⟩ [] []
        []
      .fin))))
    (.ops [⟨some 19, none, .mv (.t 6)⟩,
      ⟨some 20, none, .bin .add (.t 19) (.k (.i .i64 1))⟩,
      ⟨some 6, none, .mv (.t 20)⟩]))
def c_spec_ResponseTimes : LC := .seq (.ops [⟨some 4, none, .mv (.k (.sn))⟩])
    (.seq (.seq (.ops [⟨some 7, none, .mv (.t 0)⟩,
      ⟨some 8, none, .mv (.t 1)⟩,
      ⟨some 9, none, .call (.k (.fn n_spec_OrderValid [] [])) [.t 7, .t 8]⟩,
      ⟨some 10, none, .not (.t 9)⟩])
    (.cond (.t 10) (.seq (.ops [⟨some 11, none, .bsl ty_int [.i .i64 0] 0 []⟩,
      ⟨some 4, none, .mv (.t 11)⟩])
    (.ret))
    (.skip)))
    (.seq (.ops [⟨some 12, none, .mv (.t 0)⟩,
      ⟨some 13, none, .len (.t 12)⟩,
      ⟨some 14, none, .msl ty_int 8 [.i .i64 0] (.t 13)⟩,
      ⟨some 5, none, .mv (.t 14)⟩])
    (.seq (.seq (.ops [⟨some 6, none, .mv (.k (.i .i64 0))⟩])
    (.block 0 (.loop l0_spec_ResponseTimes)))
    (.seq (.ops [⟨some 36, none, .mv (.t 5)⟩,
      ⟨some 4, none, .mv (.t 36)⟩])
    (.ret)))))
theorem k_spec_ResponseTimes : chkF Try.prog Try.f33 37 c_spec_ResponseTimes [.t 4] = true := by kernel_rfl
theorem call_spec_ResponseTimes {args : List AV} {σ : List AB} {K : AV → List AB → Prop} (hn : args.length ≤ 37) (hw : wpC Try.prog σ.length 37 c_spec_ResponseTimes (retP σ.length [.t 4] K) ⟨initT 0 args, σ⟩) : CallWp Try.prog n_spec_ResponseTimes args σ K := call_fn mixed Try.func33 k_spec_ResponseTimes hn hw
theorem callC_spec_ResponseTimes {args : List AV} {σ : List AB} {K : AV → List AB → Prop} (hn : args.length ≤ 37) (hw : Closed σ → args.all (below1 σ.length) = true → wpC Try.prog σ.length 37 c_spec_ResponseTimes (retP σ.length [.t 4] K) ⟨initT 0 args, σ⟩) : CallWp Try.prog n_spec_ResponseTimes args σ K := call_fnC mixed Try.func33 k_spec_ResponseTimes hn hw

-- loop.example/deadlinescheduler/spec.DrawDeadlineMonotonic
def c_spec_DrawDeadlineMonotonic : LC := .seq (.ops [⟨some 2, none, .mv (.k (.sn))⟩])
    (.seq (.ops [⟨some 3, none, .mv (.t 0)⟩,
      ⟨some 4, none, .call (.k (.fn n_spec_l20Open [] [])) [.t 3]⟩,
      ⟨some 5, none, .call (.k (.fn n_spec_l20Set [] [])) [.t 4, .k (.i .i64 12)]⟩,
      ⟨some 2, none, .mv (.t 5)⟩])
    (.ret))
theorem k_spec_DrawDeadlineMonotonic : chkF Try.prog Try.f34 6 c_spec_DrawDeadlineMonotonic [.t 2] = true := by kernel_rfl
theorem call_spec_DrawDeadlineMonotonic {args : List AV} {σ : List AB} {K : AV → List AB → Prop} (hn : args.length ≤ 6) (hw : wpC Try.prog σ.length 6 c_spec_DrawDeadlineMonotonic (retP σ.length [.t 2] K) ⟨initT 0 args, σ⟩) : CallWp Try.prog n_spec_DrawDeadlineMonotonic args σ K := call_fn mixed Try.func34 k_spec_DrawDeadlineMonotonic hn hw
theorem callC_spec_DrawDeadlineMonotonic {args : List AV} {σ : List AB} {K : AV → List AB → Prop} (hn : args.length ≤ 6) (hw : Closed σ → args.all (below1 σ.length) = true → wpC Try.prog σ.length 6 c_spec_DrawDeadlineMonotonic (retP σ.length [.t 2] K) ⟨initT 0 args, σ⟩) : CallWp Try.prog n_spec_DrawDeadlineMonotonic args σ K := call_fnC mixed Try.func34 k_spec_DrawDeadlineMonotonic hn hw

-- loop.example/deadlinescheduler/spec.DeadlineMonotonic
-- l1_spec_DeadlineMonotonic: live at the head: 0 3 4
-- l0_spec_DeadlineMonotonic: live at the head: 0 3 4 5
def l0_spec_DeadlineMonotonic : LC := .seq (.seq (.ops [⟨some 15, none, .mv (.t 5)⟩,
      ⟨some 16, none, .mv (.t 0)⟩,
      ⟨some 17, none, .len (.t 16)⟩,
      ⟨some 18, none, .bin .lss (.t 15) (.t 17)⟩])
    (.cond (.t 18) (.skip)
    (.exit 2)))
    (.seq (.block 3 (.seq (.ops [⟨some 21, none, .mv (.t 0)⟩,
      ⟨some 22, none, .mv (.t 5)⟩,
      ⟨some 23, none, .ia 3 (.t 21) (.t 22)⟩,
      ⟨some 24, none, .fa 1 (.t 23)⟩,
      ⟨some 25, none, .ld (.t 24)⟩,
      ⟨some 26, none, .mv (.t 4)⟩,
      ⟨some 27, none, .bin .eql (.t 25) (.t 26)⟩])
    (.cond (.t 27) (.ops [⟨some 28, none, .mv (.t 3)⟩,
      ⟨some 29, none, .mv (.t 5)⟩,
      ⟨some 30, none, .bsl ty_int [.i .i64 0] 1 [(0, 1, .t 29)]⟩,
      ⟨some 31, none, .app ty_int 1 8 (.t 28) (.t 30)⟩,
      ⟨some 3, none, .mv (.t 31)⟩])
    (.skip))))
    (.ops [⟨some 19, none, .mv (.t 5)⟩,
      ⟨some 20, none, .bin .add (.t 19) (.k (.i .i64 1))⟩,
      ⟨some 5, none, .mv (.t 20)⟩]))
def l1_spec_DeadlineMonotonic : LC := .seq (.seq (.ops [⟨some 11, none, .mv (.t 4)⟩,
      ⟨some 12, none, .bin .leq (.t 11) (.k (.i .i64 12))⟩])
    (.cond (.t 12) (.skip)
    (.exit 0)))
    (.seq (.block 1 (.seq (.ops [⟨some 5, none, .mv (.k (.i .i64 0))⟩])
    (.block 2 (.loop l0_spec_DeadlineMonotonic))))
    (.ops [⟨some 13, none, .mv (.t 4)⟩,
      ⟨some 14, none, .bin .add (.t 13) (.k (.i .i64 1))⟩,
      ⟨some 4, none, .mv (.t 14)⟩]))
def c_spec_DeadlineMonotonic : LC := .seq (.ops [⟨some 2, none, .mv (.k (.sn))⟩])
    (.seq (.ops [⟨some 6, none, .bsl ty_int [.i .i64 0] 0 []⟩,
      ⟨some 3, none, .mv (.t 6)⟩])
    (.seq (.seq (.ops [⟨some 7, none, .mv (.t 0)⟩,
      ⟨some 8, none, .call (.k (.fn n_spec_SetValid [] [])) [.t 7]⟩,
      ⟨some 9, none, .not (.t 8)⟩])
    (.cond (.t 9) (.seq (.ops [⟨some 10, none, .mv (.t 3)⟩,
      ⟨some 2, none, .mv (.t 10)⟩])
    (.ret))
    (.skip)))
    (.seq (.seq (.ops [⟨some 4, none, .mv (.k (.i .i64 1))⟩])
    (.block 0 (.loop l1_spec_DeadlineMonotonic)))
    (.seq (.ops [⟨some 32, none, .mv (.t 3)⟩,
      ⟨some 2, none, .mv (.t 32)⟩])
    (.ret)))))
theorem k_spec_DeadlineMonotonic : chkF Try.prog Try.f35 33 c_spec_DeadlineMonotonic [.t 2] = true := by kernel_rfl
theorem call_spec_DeadlineMonotonic {args : List AV} {σ : List AB} {K : AV → List AB → Prop} (hn : args.length ≤ 33) (hw : wpC Try.prog σ.length 33 c_spec_DeadlineMonotonic (retP σ.length [.t 2] K) ⟨initT 0 args, σ⟩) : CallWp Try.prog n_spec_DeadlineMonotonic args σ K := call_fn mixed Try.func35 k_spec_DeadlineMonotonic hn hw
theorem callC_spec_DeadlineMonotonic {args : List AV} {σ : List AB} {K : AV → List AB → Prop} (hn : args.length ≤ 33) (hw : Closed σ → args.all (below1 σ.length) = true → wpC Try.prog σ.length 33 c_spec_DeadlineMonotonic (retP σ.length [.t 2] K) ⟨initT 0 args, σ⟩) : CallWp Try.prog n_spec_DeadlineMonotonic args σ K := call_fnC mixed Try.func35 k_spec_DeadlineMonotonic hn hw

-- loop.example/deadlinescheduler/spec.SetValid
-- l0_spec_SetValid: live at the head: 0 3
def l0_spec_SetValid : LC := .seq (.seq (.ops [⟨some 4, none, .mv (.t 3)⟩,
      ⟨some 5, none, .mv (.t 0)⟩,
      ⟨some 6, none, .len (.t 5)⟩,
      ⟨some 7, none, .bin .lss (.t 4) (.t 6)⟩])
    (.cond (.t 7) (.skip)
    (.exit 0)))
    (.seq (.block 1 (.seq (.ops [⟨some 10, none, .mv (.t 0)⟩,
      ⟨some 11, none, .mv (.t 3)⟩,
      ⟨some 12, none, .ia 3 (.t 10) (.t 11)⟩,
      ⟨some 13, none, .ldn 3 (.t 12)⟩,
      ⟨some 14, none, .call (.k (.fn n_spec_TaskValid [] [])) [.t 13]⟩,
      ⟨some 15, none, .not (.t 14)⟩])
    (.cond (.t 15) (.seq (.ops [⟨some 2, none, .mv (.k (.b false))⟩])
    (.ret))
    (.skip))))
    (.ops [⟨some 8, none, .mv (.t 3)⟩,
      ⟨some 9, none, .bin .add (.t 8) (.k (.i .i64 1))⟩,
      ⟨some 3, none, .mv (.t 9)⟩]))
def c_spec_SetValid : LC := .seq (.ops [⟨some 2, none, .mv (.k (.b false))⟩])
    (.seq (.seq (.ops [⟨some 3, none, .mv (.k (.i .i64 0))⟩])
    (.block 0 (.loop l0_spec_SetValid)))
    (.seq (.ops [⟨some 16, none, .mv (.t 0)⟩,
      ⟨some 17, none, .len (.t 16)⟩,
      ⟨some 18, none, .bin .leq (.t 17) (.k (.i .i64 5))⟩,
      ⟨some 2, none, .mv (.t 18)⟩])
    (.ret)))
theorem k_spec_SetValid : chkF Try.prog Try.f36 19 c_spec_SetValid [.t 2] = true := by kernel_rfl
theorem call_spec_SetValid {args : List AV} {σ : List AB} {K : AV → List AB → Prop} (hn : args.length ≤ 19) (hw : wpC Try.prog σ.length 19 c_spec_SetValid (retP σ.length [.t 2] K) ⟨initT 0 args, σ⟩) : CallWp Try.prog n_spec_SetValid args σ K := call_fn mixed Try.func36 k_spec_SetValid hn hw
theorem callC_spec_SetValid {args : List AV} {σ : List AB} {K : AV → List AB → Prop} (hn : args.length ≤ 19) (hw : Closed σ → args.all (below1 σ.length) = true → wpC Try.prog σ.length 19 c_spec_SetValid (retP σ.length [.t 2] K) ⟨initT 0 args, σ⟩) : CallWp Try.prog n_spec_SetValid args σ K := call_fnC mixed Try.func36 k_spec_SetValid hn hw

-- loop.example/deadlinescheduler/impl.AssignPriorities
-- l0_impl_AssignPriorities: live at the head: 1 4 5 6
def l0_impl_AssignPriorities : LC := .seq (.seq (.ops [⟨some 20, none, .mv (.t 6)⟩,
      ⟨some 21, none, .bin .geq (.t 20) (.k (.i .i64 0))⟩])
    (.cond (.t 21) (.skip)
    (.exit 0)))
    (.seq (.block 1 (.seq (.ops [⟨some 24, none, .ld (.t 4)⟩,
      ⟨some 25, none, .mkf n_impl_AssignPriorities_1 [] [.t 4, .t 1]⟩,
      ⟨some 26, none, .call (.k (.fn n_slices_IndexFunc_int [] [])) [.t 24, .t 25]⟩,
      ⟨some 7, none, .mv (.t 26)⟩])
    (.seq (.seq (.ops [⟨some 27, none, .mv (.t 7)⟩,
      ⟨some 28, none, .bin .lss (.t 27) (.k (.i .i64 0))⟩])
    (.cond (.t 28) (.seq (.ops [⟨some 2, none, .mv (.k (.sn))⟩,
      ⟨some 3, none, .mv (.k (.b false))⟩])
    (.ret))
    (.skip)))
    (.seq (.ops [⟨some 29, none, .mv (.t 5)⟩,
      ⟨some 30, none, .mv (.t 6)⟩,
      ⟨some 31, none, .ld (.t 4)⟩,
      ⟨some 32, none, .mv (.t 7)⟩,
      ⟨some 33, none, .ia 1 (.t 31) (.t 32)⟩,
      ⟨some 34, none, .ld (.t 33)⟩,
      ⟨some 35, none, .ia 1 (.t 29) (.t 30)⟩,
      ⟨none, none, .st 1 (.t 35) (.t 34)⟩])
    (.ops [⟨some 36, none, .ld (.t 4)⟩,
      ⟨some 37, none, .mv (.t 7)⟩,
      ⟨some 38, none, .mv (.t 7)⟩,
      ⟨some 39, none, .bin .add (.t 38) (.k (.i .i64 1))⟩,
      ⟨some 40, none, .call (.k (.fn n_slices_Delete_int [] [])) [.t 36, .t 37, .t 39]⟩,
      ⟨none, none, .st 1 (.t 4) (.t 40)⟩])))))
    (.ops [⟨some 22, none, .mv (.t 6)⟩,
      ⟨some 23, none, .bin .sub (.t 22) (.k (.i .i64 1))⟩,
      ⟨some 6, none, .mv (.t 23)⟩]))
def c_impl_AssignPriorities : LC := .seq (.ops [⟨some 1, none, .box ty_sl_impl_Task (.t 0)⟩,
      ⟨some 2, none, .mv (.k (.sn))⟩,
      ⟨some 3, none, .mv (.k (.b false))⟩])
    (.seq (.seq (.ops [⟨some 8, none, .ld (.t 1)⟩,
      ⟨some 9, none, .call (.k (.fn n_impl_SetValid [] [])) [.t 8]⟩,
      ⟨some 10, none, .not (.t 9)⟩])
    (.cond (.t 10) (.seq (.ops [⟨some 2, none, .mv (.k (.sn))⟩,
      ⟨some 3, none, .mv (.k (.b false))⟩])
    (.ret))
    (.skip)))
    (.seq (.ops [⟨some 11, none, .ld (.t 1)⟩,
      ⟨some 12, none, .len (.t 11)⟩,
      ⟨some 13, none, .call (.k (.fn n_impl_indices [] [])) [.t 12]⟩,
      ⟨some 4, none, .alloc ty_sl_int [.sn]⟩,
      ⟨none, none, .st 1 (.t 4) (.t 13)⟩])
    (.seq (.ops [⟨some 14, none, .ld (.t 1)⟩,
      ⟨some 15, none, .len (.t 14)⟩,
      ⟨some 16, none, .msl ty_int 8 [.i .i64 0] (.t 15)⟩,
      ⟨some 5, none, .mv (.t 16)⟩])
    (.seq (.seq (.ops [⟨some 17, none, .ld (.t 1)⟩,
      ⟨some 18, none, .len (.t 17)⟩,
      ⟨some 19, none, .bin .sub (.t 18) (.k (.i .i64 1))⟩,
      ⟨some 6, none, .mv (.t 19)⟩])
    (.block 0 (.loop l0_impl_AssignPriorities)))
    (.seq (.ops [⟨some 41, none, .mv (.t 5)⟩,
      ⟨some 2, none, .mv (.t 41)⟩,
      ⟨some 3, none, .mv (.k (.b true))⟩])
    (.ret))))))
theorem k_impl_AssignPriorities : chkF Try.prog Try.f37 42 c_impl_AssignPriorities [.t 2, .t 3] = true := by kernel_rfl
theorem call_impl_AssignPriorities {args : List AV} {σ : List AB} {K : AV → List AB → Prop} (hn : args.length ≤ 42) (hw : wpC Try.prog σ.length 42 c_impl_AssignPriorities (retP σ.length [.t 2, .t 3] K) ⟨initT 0 args, σ⟩) : CallWp Try.prog n_impl_AssignPriorities args σ K := call_fn mixed Try.func37 k_impl_AssignPriorities hn hw
theorem callC_impl_AssignPriorities {args : List AV} {σ : List AB} {K : AV → List AB → Prop} (hn : args.length ≤ 42) (hw : Closed σ → args.all (below1 σ.length) = true → wpC Try.prog σ.length 42 c_impl_AssignPriorities (retP σ.length [.t 2, .t 3] K) ⟨initT 0 args, σ⟩) : CallWp Try.prog n_impl_AssignPriorities args σ K := call_fnC mixed Try.func37 k_impl_AssignPriorities hn hw

-- loop.example/deadlinescheduler/impl.OrderValid
-- l0_impl_OrderValid: live at the head: 0 1 7 8 9 21 22 23 24 25 31 32 33 34 35
def l0_impl_OrderValid : LC := .seq (.ops [⟨some 10, none, .bin .lss (.t 9) (.t 8)⟩])
    (.seq (.cond (.t 10) (.skip)
    (.exit 0))
    (.seq (.block 1 (.seq (.ops [⟨some 11, none, .mv (.t 9)⟩,
      ⟨some 12, none, .ia 1 (.t 7) (.t 9)⟩,
      ⟨some 13, none, .ld (.t 12)⟩,
      ⟨some 5, none, .mv (.t 11)⟩,
      ⟨some 6, none, .mv (.t 13)⟩])
    (.seq (.ops [⟨some 14, none, .mv (.t 6)⟩,
      ⟨some 15, none, .mv (.t 0)⟩,
      ⟨some 16, none, .len (.t 15)⟩,
      ⟨some 17, none, .bin .sub (.t 16) (.k (.i .i64 1))⟩,
      ⟨some 18, none, .call (.k (.fn n_impl_in [] [])) [.t 14, .k (.i .i64 0), .t 17]⟩,
      ⟨some 19, none, .not (.t 18)⟩,
      ⟨some 20, none, .mv (.t 19)⟩,
      ⟨some 21, (some (20, false)), .mv (.t 1)⟩,
      ⟨some 22, (some (20, false)), .mv (.t 6)⟩,
      ⟨some 23, (some (20, false)), .call (.k (.fn n_slices_Index_int [] [])) [.t 21, .t 22]⟩,
      ⟨some 24, (some (20, false)), .mv (.t 5)⟩,
      ⟨some 25, (some (20, false)), .bin .neq (.t 23) (.t 24)⟩,
      ⟨some 26, none, .pick (.t 20) (.k (.b true)) (.t 25)⟩])
    (.cond (.t 26) (.seq (.ops [⟨some 4, none, .mv (.k (.b false))⟩])
    (.ret))
    (.skip)))))
    (.ops [⟨some 27, none, .bin .add (.t 9) (.k (.i .i64 1))⟩,
      ⟨some 9, none, .mv (.t 27)⟩])))
def c_impl_OrderValid : LC := .seq (.ops [⟨some 4, none, .mv (.k (.b false))⟩])
    (.seq (.seq (.ops [⟨some 7, none, .mv (.t 1)⟩,
      ⟨some 8, none, .len (.t 7)⟩,
      ⟨some 9, none, .mv (.k (.i .i64 0))⟩])
    (.block 0 (.loop l0_impl_OrderValid)))
    (.seq (.ops [⟨some 28, none, .mv (.t 0)⟩,
      ⟨some 29, none, .call (.k (.fn n_impl_SetValid [] [])) [.t 28]⟩,
      ⟨some 30, none, .mv (.t 29)⟩,
      ⟨some 31, (some (30, true)), .mv (.t 1)⟩,
      ⟨some 32, (some (30, true)), .len (.t 31)⟩,
      ⟨some 33, (some (30, true)), .mv (.t 0)⟩,
      ⟨some 34, (some (30, true)), .len (.t 33)⟩,
      ⟨some 35, (some (30, true)), .bin .eql (.t 32) (.t 34)⟩,
      ⟨some 36, none, .pick (.t 30) (.t 35) (.k (.b false))⟩,
      ⟨some 4, none, .mv (.t 36)⟩])
    (.ret)))
theorem k_impl_OrderValid : chkF Try.prog Try.f38 37 c_impl_OrderValid [.t 4] = true := by kernel_rfl
theorem call_impl_OrderValid {args : List AV} {σ : List AB} {K : AV → List AB → Prop} (hn : args.length ≤ 37) (hw : wpC Try.prog σ.length 37 c_impl_OrderValid (retP σ.length [.t 4] K) ⟨initT 0 args, σ⟩) : CallWp Try.prog n_impl_OrderValid args σ K := call_fn mixed Try.func38 k_impl_OrderValid hn hw
theorem callC_impl_OrderValid {args : List AV} {σ : List AB} {K : AV → List AB → Prop} (hn : args.length ≤ 37) (hw : Closed σ → args.all (below1 σ.length) = true → wpC Try.prog σ.length 37 c_impl_OrderValid (retP σ.length [.t 4] K) ⟨initT 0 args, σ⟩) : CallWp Try.prog n_impl_OrderValid args σ K := call_fnC mixed Try.func38 k_impl_OrderValid hn hw

-- loop.example/deadlinescheduler/spec.DrawCheckSchedule
-- a cut
-- a cut
def c_spec_DrawCheckSchedule : LC := .seq (.ops [⟨some 2, none, .mv (.k (.sn))⟩,
      ⟨some 3, none, .mv (.k (.sn))⟩,
      ⟨some 4, none, .mv (.k (.sn))⟩])
    (.seq (.ops [⟨some 12, none, .mv (.t 0)⟩,
      ⟨some 13, none, .call (.k (.fn n_spec_l20Open [] [])) [.t 12]⟩,
      ⟨some 5, none, .mv (.t 13)⟩])
    (.seq (.ops [⟨some 14, none, .mv (.t 5)⟩,
      ⟨some 15, none, .call (.k (.fn n_spec_l20Set [] [])) [.t 14, .k (.i .i64 24)]⟩,
      ⟨some 6, none, .mv (.t 15)⟩])
    (.seq (.seq (.ops [⟨some 16, none, .mv (.t 6)⟩,
      ⟨some 17, none, .call (.k (.fn n_spec_SetValid [] [])) [.t 16]⟩,
      ⟨some 18, none, .not (.t 17)⟩])
    (.cond (.t 18) (.seq (.ops [⟨some 19, none, .mv (.t 6)⟩,
      ⟨some 20, none, .bsl ty_impl_Job [.i .i64 0, .i .i64 0, .i .i64 0, .i .i64 0] 0 []⟩,
      ⟨some 21, none, .bsl ty_int [.i .i64 0] 0 []⟩,
      ⟨some 2, none, .mv (.t 19)⟩,
      ⟨some 3, none, .mv (.t 20)⟩,
      ⟨some 4, none, .mv (.t 21)⟩])
    (.ret))
    (.skip)))
    (.seq (.ops [⟨some 22, none, .mv (.t 5)⟩,
      ⟨some 23, none, .mv (.t 6)⟩,
      ⟨some 24, none, .call (.k (.fn n_spec_l20Jobs [] [])) [.t 22, .t 23, .k (.i .i64 20)]⟩,
      ⟨some 7, none, .mv (.t 24)⟩])
    (.seq (.ops [⟨some 25, none, .mv (.t 6)⟩,
      ⟨some 26, none, .mv (.t 7)⟩,
      ⟨some 27, none, .call (.k (.fn n_spec_RunEdf [] [])) [.t 25, .t 26]⟩,
      ⟨some 28, none, .fld 0 (.t 27)⟩,
      ⟨some 8, none, .mv (.t 28)⟩])
    (.join (.join (.ops [⟨some 29, none, .mv (.t 8)⟩,
      ⟨some 30, none, .len (.t 29)⟩,
      ⟨some 31, none, .bin .gtr (.t 30) (.k (.i .i64 0))⟩,
      ⟨some 32, none, .mv (.t 31)⟩,
      ⟨some 33, (some (32, true)), .mv (.t 5)⟩,
      ⟨some 34, (some (32, true)), .call (.k (.fn n_spec_l20Rd_pick [] [])) [.t 33, .k (.i .i64 2)]⟩,
      ⟨some 35, (some (32, true)), .bin .eql (.t 34) (.k (.i .i64 0))⟩,
      ⟨some 36, none, .pick (.t 32) (.t 35) (.k (.b false))⟩])
    (.cond (.t 36) (.seq (.ops [⟨some 37, none, .mv (.t 5)⟩,
      ⟨some 38, none, .mv (.t 8)⟩,
      ⟨some 39, none, .len (.t 38)⟩,
      ⟨some 40, none, .call (.k (.fn n_spec_l20Rd_pick [] [])) [.t 37, .t 39]⟩,
      ⟨some 9, none, .mv (.t 40)⟩])
    (.seq (.ops [⟨some 41, none, .mv (.t 5)⟩,
      ⟨some 42, none, .call (.k (.fn n_spec_l20Rd_pick [] [])) [.t 41, .k (.i .i64 4)]⟩])
    (.block 0 (.seq (.ops [⟨some 47, none, .bin .eql (.t 42) (.k (.i .i64 0))⟩,
      ⟨some 46, none, .mv (.t 47)⟩])
    (.cond (.t 46) (.ops [⟨some 48, none, .mv (.t 8)⟩,
      ⟨some 49, none, .mv (.t 9)⟩,
      ⟨some 50, none, .mv (.t 5)⟩,
      ⟨some 51, none, .mv (.t 7)⟩,
      ⟨some 52, none, .len (.t 51)⟩,
      ⟨some 53, none, .bin .add (.t 52) (.k (.i .i64 2))⟩,
      ⟨some 54, none, .call (.k (.fn n_spec_l20Rd_pick [] [])) [.t 50, .t 53]⟩,
      ⟨some 55, none, .bin .sub (.t 54) (.k (.i .i64 1))⟩,
      ⟨some 56, none, .ia 1 (.t 48) (.t 49)⟩,
      ⟨none, none, .st 1 (.t 56) (.t 55)⟩])
    (.seq (.ops [⟨some 58, none, .bin .eql (.t 42) (.k (.i .i64 1))⟩,
      ⟨some 57, none, .mv (.t 58)⟩])
    (.cond (.t 57) (.ops [⟨some 59, none, .mv (.t 8)⟩,
      ⟨some 60, none, .mv (.t 9)⟩,
      ⟨some 61, none, .slc 1 (.t 59) none (some (.t 60)) none⟩,
      ⟨some 8, none, .mv (.t 61)⟩])
    (.seq (.ops [⟨some 63, none, .bin .eql (.t 42) (.k (.i .i64 2))⟩,
      ⟨some 62, none, .mv (.t 63)⟩])
    (.cond (.t 62) (.seq (.ops [⟨some 64, none, .mv (.t 5)⟩,
      ⟨some 65, none, .mv (.t 8)⟩,
      ⟨some 66, none, .len (.t 65)⟩,
      ⟨some 67, none, .call (.k (.fn n_spec_l20Rd_pick [] [])) [.t 64, .t 66]⟩,
      ⟨some 10, none, .mv (.t 67)⟩])
    (.seq (.ops [⟨some 68, none, .mv (.t 8)⟩,
      ⟨some 69, none, .mv (.t 9)⟩,
      ⟨some 70, none, .ia 1 (.t 68) (.t 69)⟩,
      ⟨some 71, none, .ld (.t 70)⟩,
      ⟨some 11, none, .mv (.t 71)⟩])
    (.seq (.ops [⟨some 72, none, .mv (.t 8)⟩,
      ⟨some 73, none, .mv (.t 9)⟩,
      ⟨some 74, none, .mv (.t 8)⟩,
      ⟨some 75, none, .mv (.t 10)⟩,
      ⟨some 76, none, .ia 1 (.t 74) (.t 75)⟩,
      ⟨some 77, none, .ld (.t 76)⟩,
      ⟨some 78, none, .ia 1 (.t 72) (.t 73)⟩,
      ⟨none, none, .st 1 (.t 78) (.t 77)⟩])
    (.ops [⟨some 79, none, .mv (.t 8)⟩,
      ⟨some 80, none, .mv (.t 10)⟩,
      ⟨some 81, none, .mv (.t 11)⟩,
      ⟨some 82, none, .ia 1 (.t 79) (.t 80)⟩,
      ⟨none, none, .st 1 (.t 82) (.t 81)⟩]))))
    (.ops [⟨some 43, none, .mv (.t 8)⟩,
      ⟨some 44, none, .mv (.t 9)⟩,
      ⟨some 45, none, .ia 1 (.t 43) (.t 44)⟩,
      ⟨none, none, .st 1 (.t 45) (.k (.i .i64 (-1)))⟩]))))))))))
    (.skip)))
    (.seq (.ops [⟨some 83, none, .mv (.t 6)⟩,
      ⟨some 84, none, .mv (.t 7)⟩,
      ⟨some 85, none, .mv (.t 8)⟩,
      ⟨some 2, none, .mv (.t 83)⟩,
      ⟨some 3, none, .mv (.t 84)⟩,
      ⟨some 4, none, .mv (.t 85)⟩])
    (.ret))))))))
theorem k_spec_DrawCheckSchedule : chkF Try.prog Try.f39 86 c_spec_DrawCheckSchedule [.t 2, .t 3, .t 4] = true := by kernel_rfl
theorem call_spec_DrawCheckSchedule {args : List AV} {σ : List AB} {K : AV → List AB → Prop} (hn : args.length ≤ 86) (hw : wpC Try.prog σ.length 86 c_spec_DrawCheckSchedule (retP σ.length [.t 2, .t 3, .t 4] K) ⟨initT 0 args, σ⟩) : CallWp Try.prog n_spec_DrawCheckSchedule args σ K := call_fn mixed Try.func39 k_spec_DrawCheckSchedule hn hw
theorem callC_spec_DrawCheckSchedule {args : List AV} {σ : List AB} {K : AV → List AB → Prop} (hn : args.length ≤ 86) (hw : Closed σ → args.all (below1 σ.length) = true → wpC Try.prog σ.length 86 c_spec_DrawCheckSchedule (retP σ.length [.t 2, .t 3, .t 4] K) ⟨initT 0 args, σ⟩) : CallWp Try.prog n_spec_DrawCheckSchedule args σ K := call_fnC mixed Try.func39 k_spec_DrawCheckSchedule hn hw

-- loop.example/deadlinescheduler/impl.CheckSchedule
-- region 10 draws, 6 of 7 first
-- l0_impl_CheckSchedule: live at the head: 2 8
def l0_impl_CheckSchedule : LC := .seq (.seq (.ops [⟨some 21, none, .mv (.t 8)⟩,
      ⟨some 22, none, .nilc (.t 21)⟩,
      ⟨some 23, none, .fa 2 (.t 22)⟩,
      ⟨some 24, none, .ld (.t 23)⟩,
      ⟨some 25, none, .bin .lss (.t 24) (.k (.i .i64 120))⟩])
    (.cond (.t 25) (.skip)
    (.exit 1)))
    (.seq (.block 2 (.seq (.ops [⟨some 33, none, .mv (.t 8)⟩,
      ⟨some 34, none, .mv (.t 2)⟩,
      ⟨some 35, none, .mv (.t 8)⟩,
      ⟨some 36, none, .nilc (.t 35)⟩,
      ⟨some 37, none, .fa 2 (.t 36)⟩,
      ⟨some 38, none, .ld (.t 37)⟩,
      ⟨some 39, none, .ia 1 (.t 34) (.t 38)⟩,
      ⟨some 40, none, .ld (.t 39)⟩,
      ⟨some 41, none, .call (.k (.fn n_impl_machine_checkTick [] [])) [.t 33, .t 40]⟩,
      ⟨some 9, none, .mv (.t 41)⟩])
    (.seq (.ops [⟨some 42, none, .mv (.t 9)⟩,
      ⟨some 43, none, .bin .neq (.t 42) (.k (.i .i64 0))⟩])
    (.cond (.t 43) (.seq (.draw 6 [⟨some 44, none, .mv (.t 9)⟩,
      ⟨some 45, none, .mv (.t 8)⟩,
      ⟨some 46, none, .nilc (.t 45)⟩,
      ⟨some 47, none, .fa 2 (.t 46)⟩,
      ⟨some 48, none, .ld (.t 47)⟩,
      ⟨some 6, none, .mv (.t 44)⟩,
      ⟨some 7, none, .mv (.t 48)⟩])
    (.ret))
    (.skip)))))
    (.ops [⟨some 26, none, .mv (.t 8)⟩,
      ⟨some 27, none, .nilc (.t 26)⟩,
      ⟨some 28, none, .fa 2 (.t 27)⟩,
      ⟨some 29, none, .ld (.t 28)⟩,
      ⟨some 30, none, .bin .add (.t 29) (.k (.i .i64 1))⟩,
      ⟨some 31, none, .nilc (.t 26)⟩,
      ⟨some 32, none, .fa 2 (.t 31)⟩,
      ⟨none, none, .st 1 (.t 32) (.t 30)⟩]))
def c_impl_CheckSchedule : LC := .seq (.ops [⟨some 6, none, .mv (.k (.i .i64 0))⟩,
      ⟨some 7, none, .mv (.k (.i .i64 0))⟩])
    (.seq (.block 0 (.seq (.ops [⟨some 11, none, .mv (.t 0)⟩,
      ⟨some 12, none, .mv (.t 1)⟩,
      ⟨some 13, none, .call (.k (.fn n_impl_JobsLegal [] [])) [.t 11, .t 12]⟩,
      ⟨some 14, none, .not (.t 13)⟩,
      ⟨some 10, none, .mv (.t 14)⟩])
    (.cond (.t 10) (.seq (.ops [⟨some 6, none, .mv (.k (.i .i64 1))⟩,
      ⟨some 7, none, .mv (.k (.i .i64 0))⟩])
    (.ret))
    (.seq (.ops [⟨some 16, none, .mv (.t 2)⟩,
      ⟨some 17, none, .len (.t 16)⟩,
      ⟨some 18, none, .bin .neq (.t 17) (.k (.i .i64 120))⟩,
      ⟨some 15, none, .mv (.t 18)⟩])
    (.cond (.t 15) (.seq (.ops [⟨some 6, none, .mv (.k (.i .i64 2))⟩,
      ⟨some 7, none, .mv (.k (.i .i64 0))⟩])
    (.ret))
    (.skip))))))
    (.seq (.ops [⟨some 19, none, .mv (.t 1)⟩,
      ⟨some 20, none, .call (.k (.fn n_impl_newMachine [] [])) [.t 19]⟩,
      ⟨some 8, none, .mv (.t 20)⟩])
    (.seq (.block 1 (.loop l0_impl_CheckSchedule))
    (.seq (.ops [⟨some 6, none, .mv (.k (.i .i64 0))⟩,
      ⟨some 7, none, .mv (.k (.i .i64 0))⟩])
    (.ret)))))
theorem k_impl_CheckSchedule : chkF Try.prog Try.f40 49 c_impl_CheckSchedule [.t 6, .t 7] = true := by kernel_rfl
theorem call_impl_CheckSchedule {args : List AV} {σ : List AB} {K : AV → List AB → Prop} (hn : args.length ≤ 49) (hw : wpC Try.prog σ.length 49 c_impl_CheckSchedule (retP σ.length [.t 6, .t 7] K) ⟨initT 0 args, σ⟩) : CallWp Try.prog n_impl_CheckSchedule args σ K := call_fn mixed Try.func40 k_impl_CheckSchedule hn hw
theorem callC_impl_CheckSchedule {args : List AV} {σ : List AB} {K : AV → List AB → Prop} (hn : args.length ≤ 49) (hw : Closed σ → args.all (below1 σ.length) = true → wpC Try.prog σ.length 49 c_impl_CheckSchedule (retP σ.length [.t 6, .t 7] K) ⟨initT 0 args, σ⟩) : CallWp Try.prog n_impl_CheckSchedule args σ K := call_fnC mixed Try.func40 k_impl_CheckSchedule hn hw

-- loop.example/deadlinescheduler/spec.CheckSchedule
-- region 17 draws, 13 of 15 first
-- a cut
-- l2_spec_CheckSchedule: live at the head: 1 2 8 9 85 86 87 88 89
-- l1_spec_CheckSchedule: live at the head: 1 2 8 10 85 86 87 88 89
-- l0_spec_CheckSchedule: live at the head: 1 2 8 10 12 85 86 87 88 89
def l0_spec_CheckSchedule : LC := .seq (.seq (.ops [⟨some 70, none, .mv (.t 12)⟩,
      ⟨some 71, none, .mv (.t 1)⟩,
      ⟨some 72, none, .len (.t 71)⟩,
      ⟨some 73, none, .bin .lss (.t 70) (.t 72)⟩])
    (.cond (.t 73) (.skip)
    (.exit 4)))
    (.seq (.block 5 (.seq (.ops [⟨some 76, none, .mv (.t 1)⟩,
      ⟨some 77, none, .mv (.t 12)⟩,
      ⟨some 78, none, .ia 4 (.t 76) (.t 77)⟩,
      ⟨some 79, none, .fa 2 (.t 78)⟩,
      ⟨some 80, none, .ld (.t 79)⟩,
      ⟨some 81, none, .mv (.t 10)⟩,
      ⟨some 82, none, .bin .add (.t 81) (.k (.i .i64 1))⟩,
      ⟨some 83, none, .bin .eql (.t 80) (.t 82)⟩,
      ⟨some 84, none, .mv (.t 83)⟩,
      ⟨some 85, (some (84, true)), .mv (.t 8)⟩,
      ⟨some 86, (some (84, true)), .mv (.t 12)⟩,
      ⟨some 87, (some (84, true)), .ia 1 (.t 85) (.t 86)⟩,
      ⟨some 88, (some (84, true)), .ld (.t 87)⟩,
      ⟨some 89, (some (84, true)), .bin .gtr (.t 88) (.k (.i .i64 0))⟩,
      ⟨some 90, none, .pick (.t 84) (.t 89) (.k (.b false))⟩])
    (.cond (.t 90) (.seq (.ops [⟨some 91, none, .mv (.t 10)⟩,
      ⟨some 6, none, .mv (.k (.i .i64 6))⟩,
      ⟨some 7, none, .mv (.t 91)⟩])
    (.ret))
    (.skip))))
    (.ops [⟨some 74, none, .mv (.t 12)⟩,
      ⟨some 75, none, .bin .add (.t 74) (.k (.i .i64 1))⟩,
      ⟨some 12, none, .mv (.t 75)⟩]))
def l1_spec_CheckSchedule : LC := .seq (.seq (.ops [⟨some 35, none, .mv (.t 10)⟩,
      ⟨some 36, none, .bin .lss (.t 35) (.k (.i .i64 120))⟩])
    (.cond (.t 36) (.skip)
    (.exit 2)))
    (.seq (.block 3 (.seq (.ops [⟨some 39, none, .mv (.t 1)⟩,
      ⟨some 40, none, .mv (.t 8)⟩,
      ⟨some 41, none, .mv (.t 2)⟩,
      ⟨some 42, none, .mv (.t 10)⟩,
      ⟨some 43, none, .ia 1 (.t 41) (.t 42)⟩,
      ⟨some 44, none, .ld (.t 43)⟩,
      ⟨some 45, none, .mv (.t 10)⟩,
      ⟨some 46, none, .call (.k (.fn n_spec_l9Tick [] [])) [.t 39, .t 40, .t 44, .t 45]⟩,
      ⟨some 11, none, .mv (.t 46)⟩])
    (.seq (.seq (.ops [⟨some 47, none, .mv (.t 11)⟩,
      ⟨some 48, none, .bin .neq (.t 47) (.k (.i .i64 0))⟩])
    (.cond (.t 48) (.seq (.ops [⟨some 49, none, .mv (.t 11)⟩,
      ⟨some 50, none, .mv (.t 10)⟩,
      ⟨some 6, none, .mv (.t 49)⟩,
      ⟨some 7, none, .mv (.t 50)⟩])
    (.ret))
    (.skip)))
    (.join (.seq (.ops [⟨some 51, none, .mv (.t 2)⟩,
      ⟨some 52, none, .mv (.t 10)⟩,
      ⟨some 53, none, .ia 1 (.t 51) (.t 52)⟩,
      ⟨some 54, none, .ld (.t 53)⟩,
      ⟨some 55, none, .bin .geq (.t 54) (.k (.i .i64 0))⟩])
    (.cond (.t 55) (.draw 13 [⟨some 56, none, .mv (.t 8)⟩,
      ⟨some 57, none, .mv (.t 2)⟩,
      ⟨some 58, none, .mv (.t 10)⟩,
      ⟨some 59, none, .ia 1 (.t 57) (.t 58)⟩,
      ⟨some 60, none, .ld (.t 59)⟩,
      ⟨some 61, none, .mv (.t 8)⟩,
      ⟨some 62, none, .mv (.t 2)⟩,
      ⟨some 63, none, .mv (.t 10)⟩,
      ⟨some 64, none, .ia 1 (.t 62) (.t 63)⟩,
      ⟨some 65, none, .ld (.t 64)⟩,
      ⟨some 66, none, .ia 1 (.t 61) (.t 65)⟩,
      ⟨some 67, none, .ld (.t 66)⟩,
      ⟨some 68, none, .bin .sub (.t 67) (.k (.i .i64 1))⟩,
      ⟨some 69, none, .ia 1 (.t 56) (.t 60)⟩,
      ⟨none, none, .st 1 (.t 69) (.t 68)⟩])
    (.skip)))
    (.seq (.ops [⟨some 12, none, .mv (.k (.i .i64 0))⟩])
    (.block 4 (.loop l0_spec_CheckSchedule)))))))
    (.ops [⟨some 37, none, .mv (.t 10)⟩,
      ⟨some 38, none, .bin .add (.t 37) (.k (.i .i64 1))⟩,
      ⟨some 10, none, .mv (.t 38)⟩]))
def l2_spec_CheckSchedule : LC := .seq (.seq (.ops [⟨some 21, none, .mv (.t 9)⟩,
      ⟨some 22, none, .mv (.t 1)⟩,
      ⟨some 23, none, .len (.t 22)⟩,
      ⟨some 24, none, .bin .lss (.t 21) (.t 23)⟩])
    (.cond (.t 24) (.skip)
    (.exit 0)))
    (.seq (.block 1 (.ops [⟨some 27, none, .mv (.t 8)⟩,
      ⟨some 28, none, .mv (.t 1)⟩,
      ⟨some 29, none, .mv (.t 9)⟩,
      ⟨some 30, none, .ia 4 (.t 28) (.t 29)⟩,
      ⟨some 31, none, .fa 3 (.t 30)⟩,
      ⟨some 32, none, .ld (.t 31)⟩,
      ⟨some 33, none, .bsl ty_int [.i .i64 0] 1 [(0, 1, .t 32)]⟩,
      ⟨some 34, none, .app ty_int 1 8 (.t 27) (.t 33)⟩,
      ⟨some 8, none, .mv (.t 34)⟩]))
    (.ops [⟨some 25, none, .mv (.t 9)⟩,
      ⟨some 26, none, .bin .add (.t 25) (.k (.i .i64 1))⟩,
      ⟨some 9, none, .mv (.t 26)⟩]))
def c_spec_CheckSchedule : LC := .seq (.ops [⟨some 6, none, .mv (.k (.i .i64 0))⟩,
      ⟨some 7, none, .mv (.k (.i .i64 0))⟩])
    (.seq (.seq (.ops [⟨some 13, none, .mv (.t 0)⟩,
      ⟨some 14, none, .mv (.t 1)⟩,
      ⟨some 15, none, .call (.k (.fn n_spec_JobsLegal [] [])) [.t 13, .t 14]⟩,
      ⟨some 16, none, .not (.t 15)⟩])
    (.cond (.t 16) (.seq (.ops [⟨some 6, none, .mv (.k (.i .i64 1))⟩,
      ⟨some 7, none, .mv (.k (.i .i64 0))⟩])
    (.ret))
    (.skip)))
    (.seq (.seq (.ops [⟨some 17, none, .mv (.t 2)⟩,
      ⟨some 18, none, .len (.t 17)⟩,
      ⟨some 19, none, .bin .neq (.t 18) (.k (.i .i64 120))⟩])
    (.cond (.t 19) (.seq (.ops [⟨some 6, none, .mv (.k (.i .i64 2))⟩,
      ⟨some 7, none, .mv (.k (.i .i64 0))⟩])
    (.ret))
    (.skip)))
    (.seq (.ops [⟨some 20, none, .bsl ty_int [.i .i64 0] 0 []⟩,
      ⟨some 8, none, .mv (.t 20)⟩])
    (.seq (.seq (.ops [⟨some 9, none, .mv (.k (.i .i64 0))⟩])
    (.block 0 (.loop l2_spec_CheckSchedule)))
    (.seq (.seq (.ops [⟨some 10, none, .mv (.k (.i .i64 0))⟩])
    (.block 2 (.loop l1_spec_CheckSchedule)))
    (.seq (.ops [⟨some 6, none, .mv (.k (.i .i64 0))⟩,
      ⟨some 7, none, .mv (.k (.i .i64 0))⟩])
    (.ret)))))))
theorem k_spec_CheckSchedule : chkF Try.prog Try.f41 92 c_spec_CheckSchedule [.t 6, .t 7] = true := by kernel_rfl
theorem call_spec_CheckSchedule {args : List AV} {σ : List AB} {K : AV → List AB → Prop} (hn : args.length ≤ 92) (hw : wpC Try.prog σ.length 92 c_spec_CheckSchedule (retP σ.length [.t 6, .t 7] K) ⟨initT 0 args, σ⟩) : CallWp Try.prog n_spec_CheckSchedule args σ K := call_fn mixed Try.func41 k_spec_CheckSchedule hn hw
theorem callC_spec_CheckSchedule {args : List AV} {σ : List AB} {K : AV → List AB → Prop} (hn : args.length ≤ 92) (hw : Closed σ → args.all (below1 σ.length) = true → wpC Try.prog σ.length 92 c_spec_CheckSchedule (retP σ.length [.t 6, .t 7] K) ⟨initT 0 args, σ⟩) : CallWp Try.prog n_spec_CheckSchedule args σ K := call_fnC mixed Try.func41 k_spec_CheckSchedule hn hw

-- loop.example/deadlinescheduler/laws.executed
-- l0_laws_executed: live at the head: 0 1 2 7 8
def l0_laws_executed : LC := .seq (.seq (.ops [⟨some 9, none, .mv (.t 8)⟩,
      ⟨some 10, none, .mv (.t 2)⟩,
      ⟨some 11, none, .bin .lss (.t 9) (.t 10)⟩])
    (.cond (.t 11) (.skip)
    (.exit 0)))
    (.seq (.block 1 (.seq (.ops [⟨some 14, none, .mv (.t 0)⟩,
      ⟨some 15, none, .mv (.t 8)⟩,
      ⟨some 16, none, .ia 1 (.t 14) (.t 15)⟩,
      ⟨some 17, none, .ld (.t 16)⟩,
      ⟨some 18, none, .mv (.t 1)⟩,
      ⟨some 19, none, .bin .eql (.t 17) (.t 18)⟩])
    (.cond (.t 19) (.ops [⟨some 20, none, .mv (.t 7)⟩,
      ⟨some 21, none, .bin .add (.t 20) (.k (.i .i64 1))⟩,
      ⟨some 7, none, .mv (.t 21)⟩])
    (.skip))))
    (.ops [⟨some 12, none, .mv (.t 8)⟩,
      ⟨some 13, none, .bin .add (.t 12) (.k (.i .i64 1))⟩,
      ⟨some 8, none, .mv (.t 13)⟩]))
def c_laws_executed : LC := .seq (.ops [⟨some 6, none, .mv (.k (.i .i64 0))⟩])
    (.seq (.ops [⟨some 7, none, .mv (.k (.i .i64 0))⟩])
    (.seq (.seq (.ops [⟨some 8, none, .mv (.k (.i .i64 0))⟩])
    (.block 0 (.loop l0_laws_executed)))
    (.seq (.ops [⟨some 22, none, .mv (.t 7)⟩,
      ⟨some 6, none, .mv (.t 22)⟩])
    (.ret))))
theorem k_laws_executed : chkF Try.prog Try.f42 23 c_laws_executed [.t 6] = true := by kernel_rfl
theorem call_laws_executed {args : List AV} {σ : List AB} {K : AV → List AB → Prop} (hn : args.length ≤ 23) (hw : wpC Try.prog σ.length 23 c_laws_executed (retP σ.length [.t 6] K) ⟨initT 0 args, σ⟩) : CallWp Try.prog n_laws_executed args σ K := call_fn mixed Try.func42 k_laws_executed hn hw
theorem callC_laws_executed {args : List AV} {σ : List AB} {K : AV → List AB → Prop} (hn : args.length ≤ 23) (hw : Closed σ → args.all (below1 σ.length) = true → wpC Try.prog σ.length 23 c_laws_executed (retP σ.length [.t 6] K) ⟨initT 0 args, σ⟩) : CallWp Try.prog n_laws_executed args σ K := call_fnC mixed Try.func42 k_laws_executed hn hw

-- loop.example/deadlinescheduler/spec.DrawRunEdf
def c_spec_DrawRunEdf : LC := .seq (.ops [⟨some 2, none, .mv (.k (.sn))⟩,
      ⟨some 3, none, .mv (.k (.sn))⟩])
    (.seq (.ops [⟨some 6, none, .mv (.t 0)⟩,
      ⟨some 7, none, .call (.k (.fn n_spec_l20Open [] [])) [.t 6]⟩,
      ⟨some 4, none, .mv (.t 7)⟩])
    (.seq (.ops [⟨some 8, none, .mv (.t 4)⟩,
      ⟨some 9, none, .call (.k (.fn n_spec_l20Set [] [])) [.t 8, .k (.i .i64 20)]⟩,
      ⟨some 5, none, .mv (.t 9)⟩])
    (.seq (.seq (.ops [⟨some 10, none, .mv (.t 5)⟩,
      ⟨some 11, none, .call (.k (.fn n_spec_SetValid [] [])) [.t 10]⟩,
      ⟨some 12, none, .not (.t 11)⟩])
    (.cond (.t 12) (.seq (.ops [⟨some 13, none, .mv (.t 5)⟩,
      ⟨some 14, none, .bsl ty_impl_Job [.i .i64 0, .i .i64 0, .i .i64 0, .i .i64 0] 0 []⟩,
      ⟨some 2, none, .mv (.t 13)⟩,
      ⟨some 3, none, .mv (.t 14)⟩])
    (.ret))
    (.skip)))
    (.seq (.ops [⟨some 15, none, .mv (.t 5)⟩,
      ⟨some 16, none, .mv (.t 4)⟩,
      ⟨some 17, none, .mv (.t 5)⟩,
      ⟨some 18, none, .call (.k (.fn n_spec_l20Jobs [] [])) [.t 16, .t 17, .k (.i .i64 16)]⟩,
      ⟨some 2, none, .mv (.t 15)⟩,
      ⟨some 3, none, .mv (.t 18)⟩])
    (.ret)))))
theorem k_spec_DrawRunEdf : chkF Try.prog Try.f43 19 c_spec_DrawRunEdf [.t 2, .t 3] = true := by kernel_rfl
theorem call_spec_DrawRunEdf {args : List AV} {σ : List AB} {K : AV → List AB → Prop} (hn : args.length ≤ 19) (hw : wpC Try.prog σ.length 19 c_spec_DrawRunEdf (retP σ.length [.t 2, .t 3] K) ⟨initT 0 args, σ⟩) : CallWp Try.prog n_spec_DrawRunEdf args σ K := call_fn mixed Try.func43 k_spec_DrawRunEdf hn hw
theorem callC_spec_DrawRunEdf {args : List AV} {σ : List AB} {K : AV → List AB → Prop} (hn : args.length ≤ 19) (hw : Closed σ → args.all (below1 σ.length) = true → wpC Try.prog σ.length 19 c_spec_DrawRunEdf (retP σ.length [.t 2, .t 3] K) ⟨initT 0 args, σ⟩) : CallWp Try.prog n_spec_DrawRunEdf args σ K := call_fnC mixed Try.func43 k_spec_DrawRunEdf hn hw

-- loop.example/deadlinescheduler/spec.RunEdf
def c_spec_RunEdf : LC := .seq (.ops [⟨some 4, none, .alloc ty_impl_Schedule [.sn, .sn]⟩])
    (.seq (.seq (.ops [⟨some 5, none, .mv (.t 0)⟩,
      ⟨some 6, none, .mv (.t 1)⟩,
      ⟨some 7, none, .call (.k (.fn n_spec_JobsLegal [] [])) [.t 5, .t 6]⟩,
      ⟨some 8, none, .not (.t 7)⟩])
    (.cond (.t 8) (.seq (.ops [⟨some 9, none, .build [.sn, .sn] []⟩,
      ⟨none, none, .st 2 (.t 4) (.t 9)⟩])
    (.ret))
    (.skip)))
    (.seq (.ops [⟨some 10, none, .mv (.t 1)⟩,
      ⟨some 11, none, .mv (.t 1)⟩,
      ⟨some 12, none, .call (.k (.fn n_spec_l3Deadlines [] [])) [.t 11]⟩,
      ⟨some 13, none, .call (.k (.fn n_spec_l3Run [] [])) [.t 10, .t 12]⟩,
      ⟨none, none, .st 2 (.t 4) (.t 13)⟩])
    (.ret)))
theorem k_spec_RunEdf : chkF Try.prog Try.f44 14 c_spec_RunEdf [.c 4 (some 2)] = true := by kernel_rfl
theorem call_spec_RunEdf {args : List AV} {σ : List AB} {K : AV → List AB → Prop} (hn : args.length ≤ 14) (hw : wpC Try.prog σ.length 14 c_spec_RunEdf (retP σ.length [.c 4 (some 2)] K) ⟨initT 0 args, σ⟩) : CallWp Try.prog n_spec_RunEdf args σ K := call_fn mixed Try.func44 k_spec_RunEdf hn hw
theorem callC_spec_RunEdf {args : List AV} {σ : List AB} {K : AV → List AB → Prop} (hn : args.length ≤ 14) (hw : Closed σ → args.all (below1 σ.length) = true → wpC Try.prog σ.length 14 c_spec_RunEdf (retP σ.length [.c 4 (some 2)] K) ⟨initT 0 args, σ⟩) : CallWp Try.prog n_spec_RunEdf args σ K := call_fnC mixed Try.func44 k_spec_RunEdf hn hw

-- loop.example/deadlinescheduler/spec.l20Open
-- a cut
def c_spec_l20Open : LC := .seq (.ops [⟨some 2, none, .mv (.k (.pn))⟩])
    (.join (.seq (.ops [⟨some 3, none, .mv (.t 0)⟩,
      ⟨some 4, none, .len (.t 3)⟩,
      ⟨some 5, none, .bin .gtr (.t 4) (.k (.i .i64 2000))⟩])
    (.cond (.t 5) (.ops [⟨some 6, none, .mv (.t 0)⟩,
      ⟨some 7, none, .slc 1 (.t 6) none (some (.k (.i .i64 2000))) none⟩,
      ⟨some 0, none, .mv (.t 7)⟩])
    (.skip)))
    (.seq (.ops [⟨some 8, none, .mv (.t 0)⟩,
      ⟨some 9, none, .build [.sn, .i .i64 0] [(0, 1, .t 8)]⟩,
      ⟨some 10, none, .box ty_spec_l20Rd (.t 9)⟩,
      ⟨some 2, none, .mv (.t 10)⟩])
    (.ret)))
theorem k_spec_l20Open : chkF Try.prog Try.f45 11 c_spec_l20Open [.t 2] = true := by kernel_rfl
theorem call_spec_l20Open {args : List AV} {σ : List AB} {K : AV → List AB → Prop} (hn : args.length ≤ 11) (hw : wpC Try.prog σ.length 11 c_spec_l20Open (retP σ.length [.t 2] K) ⟨initT 0 args, σ⟩) : CallWp Try.prog n_spec_l20Open args σ K := call_fn mixed Try.func45 k_spec_l20Open hn hw
theorem callC_spec_l20Open {args : List AV} {σ : List AB} {K : AV → List AB → Prop} (hn : args.length ≤ 11) (hw : Closed σ → args.all (below1 σ.length) = true → wpC Try.prog σ.length 11 c_spec_l20Open (retP σ.length [.t 2] K) ⟨initT 0 args, σ⟩) : CallWp Try.prog n_spec_l20Open args σ K := call_fnC mixed Try.func45 k_spec_l20Open hn hw

-- loop.example/deadlinescheduler/spec.l20Set
-- a cut
-- l1_spec_l20Set: live at the head: 0 1 5 6
-- l0_spec_l20Set: live at the head: 0 5
def l0_spec_l20Set : LC := .seq (.seq (.ops [⟨some 25, none, .mv (.t 5)⟩,
      ⟨some 26, none, .len (.t 25)⟩,
      ⟨some 27, none, .bin .leq (.t 26) (.k (.i .i64 5))⟩])
    (.cond (.t 27) (.skip)
    (.exit 2)))
    (.block 3 (.ops [⟨some 28, none, .mv (.t 5)⟩,
      ⟨some 29, none, .mv (.t 0)⟩,
      ⟨some 30, none, .call (.k (.fn n_spec_l20Task [] [])) [.t 29, .k (.i .i64 0)]⟩,
      ⟨some 31, none, .bsl ty_impl_Task [.i .i64 0, .i .i64 0, .i .i64 0] 1 [(0, 3, .t 30)]⟩,
      ⟨some 32, none, .app ty_impl_Task 3 24 (.t 28) (.t 31)⟩,
      ⟨some 5, none, .mv (.t 32)⟩]))
def l1_spec_l20Set : LC := .seq (.seq (.ops [⟨some 10, none, .mv (.t 6)⟩,
      ⟨some 11, none, .bin .gtr (.t 10) (.k (.i .i64 0))⟩])
    (.cond (.t 11) (.skip)
    (.exit 0)))
    (.seq (.block 1 (.ops [⟨some 14, none, .mv (.t 5)⟩,
      ⟨some 15, none, .mv (.t 0)⟩,
      ⟨some 16, none, .call (.k (.fn n_spec_l20Task [] [])) [.t 15, .k (.i .i64 0)]⟩,
      ⟨some 17, none, .bsl ty_impl_Task [.i .i64 0, .i .i64 0, .i .i64 0] 1 [(0, 3, .t 16)]⟩,
      ⟨some 18, none, .app ty_impl_Task 3 24 (.t 14) (.t 17)⟩,
      ⟨some 5, none, .mv (.t 18)⟩]))
    (.ops [⟨some 12, none, .mv (.t 6)⟩,
      ⟨some 13, none, .bin .sub (.t 12) (.k (.i .i64 1))⟩,
      ⟨some 6, none, .mv (.t 13)⟩]))
def c_spec_l20Set : LC := .seq (.ops [⟨some 4, none, .mv (.k (.sn))⟩])
    (.seq (.ops [⟨some 7, none, .bsl ty_impl_Task [.i .i64 0, .i .i64 0, .i .i64 0] 0 []⟩,
      ⟨some 5, none, .mv (.t 7)⟩])
    (.seq (.seq (.ops [⟨some 8, none, .mv (.t 0)⟩,
      ⟨some 9, none, .call (.k (.fn n_spec_l20Rd_pick [] [])) [.t 8, .k (.i .i64 6)]⟩,
      ⟨some 6, none, .mv (.t 9)⟩])
    (.block 0 (.loop l1_spec_l20Set)))
    (.join (.seq (.ops [⟨some 19, none, .mv (.t 0)⟩,
      ⟨some 20, none, .mv (.t 1)⟩,
      ⟨some 21, none, .call (.k (.fn n_spec_l20Rd_odd [] [])) [.t 19, .t 20]⟩])
    (.cond (.t 21) (.seq (.seq (.ops [⟨some 22, none, .mv (.t 0)⟩,
      ⟨some 23, none, .call (.k (.fn n_spec_l20Rd_pick [] [])) [.t 22, .k (.i .i64 3)]⟩,
      ⟨some 24, none, .bin .eql (.t 23) (.k (.i .i64 0))⟩])
    (.cond (.t 24) (.block 2 (.loop l0_spec_l20Set))
    (.skip)))
    (.ops [⟨some 33, none, .mv (.t 5)⟩,
      ⟨some 34, none, .mv (.t 0)⟩,
      ⟨some 35, none, .call (.k (.fn n_spec_l20Task [] [])) [.t 34, .k (.i .i64 2)]⟩,
      ⟨some 36, none, .bsl ty_impl_Task [.i .i64 0, .i .i64 0, .i .i64 0] 1 [(0, 3, .t 35)]⟩,
      ⟨some 37, none, .app ty_impl_Task 3 24 (.t 33) (.t 36)⟩,
      ⟨some 5, none, .mv (.t 37)⟩]))
    (.skip)))
    (.seq (.ops [⟨some 38, none, .mv (.t 5)⟩,
      ⟨some 4, none, .mv (.t 38)⟩])
    (.ret)))))
theorem k_spec_l20Set : chkF Try.prog Try.f46 39 c_spec_l20Set [.t 4] = true := by kernel_rfl
theorem call_spec_l20Set {args : List AV} {σ : List AB} {K : AV → List AB → Prop} (hn : args.length ≤ 39) (hw : wpC Try.prog σ.length 39 c_spec_l20Set (retP σ.length [.t 4] K) ⟨initT 0 args, σ⟩) : CallWp Try.prog n_spec_l20Set args σ K := call_fn mixed Try.func46 k_spec_l20Set hn hw
theorem callC_spec_l20Set {args : List AV} {σ : List AB} {K : AV → List AB → Prop} (hn : args.length ≤ 39) (hw : Closed σ → args.all (below1 σ.length) = true → wpC Try.prog σ.length 39 c_spec_l20Set (retP σ.length [.t 4] K) ⟨initT 0 args, σ⟩) : CallWp Try.prog n_spec_l20Set args σ K := call_fnC mixed Try.func46 k_spec_l20Set hn hw

-- loop.example/deadlinescheduler/spec.l20Order
-- region 6: a plan with 1 orders
-- a cut
-- a cut
-- l0_spec_l20Order: live at the head: 0 1 2 7 8 37 38 39
def l0_spec_l20Order : LC := .seq (.seq (.ops [⟨some 11, none, .mv (.t 8)⟩,
      ⟨some 12, none, .mv (.t 1)⟩,
      ⟨some 13, none, .bin .lss (.t 11) (.t 12)⟩])
    (.cond (.t 13) (.skip)
    (.exit 0)))
    (.seq (.block 1 (.seq (.ops [⟨some 16, none, .mv (.t 0)⟩,
      ⟨some 17, none, .mv (.t 8)⟩,
      ⟨some 18, none, .bin .add (.t 17) (.k (.i .i64 1))⟩,
      ⟨some 19, none, .call (.k (.fn n_spec_l20Rd_pick [] [])) [.t 16, .t 18]⟩,
      ⟨some 9, none, .mv (.t 19)⟩])
    (.plan [0, 1, 2, 3, 5, 6, 7] [⟨some 20, none, .mv (.t 7)⟩,
      ⟨some 21, none, .mv (.t 9)⟩,
      ⟨some 22, none, .slc 1 (.t 20) none (some (.t 21)) none⟩,
      ⟨some 23, none, .mv (.t 8)⟩,
      ⟨some 25, none, .mv (.t 7)⟩,
      ⟨some 26, none, .mv (.t 9)⟩,
      ⟨some 27, none, .slc 1 (.t 25) (some (.t 26)) none none⟩]
      (.one 4 ⟨some 24, none, .bsl ty_int [.i .i64 0] 1 [(0, 1, .t 23)]⟩ [] []
        []
      (.one 8 ⟨some 28, none, .app ty_int 1 8 (.t 24) (.t 27)⟩ [] []
        []
      (.one 9 ⟨some 29, none, .app ty_int 1 8 (.t 22) (.t 28)⟩ [] []
        []
      (.one 10 ⟨some 7, none, .mv (.t 29)⟩ [] []
        []
      .fin)))))))
    (.ops [⟨some 14, none, .mv (.t 8)⟩,
      ⟨some 15, none, .bin .add (.t 14) (.k (.i .i64 1))⟩,
      ⟨some 8, none, .mv (.t 15)⟩]))
def c_spec_l20Order : LC := .seq (.ops [⟨some 6, none, .mv (.k (.sn))⟩])
    (.seq (.ops [⟨some 10, none, .bsl ty_int [.i .i64 0] 0 []⟩,
      ⟨some 7, none, .mv (.t 10)⟩])
    (.seq (.seq (.ops [⟨some 8, none, .mv (.k (.i .i64 0))⟩])
    (.block 0 (.loop l0_spec_l20Order)))
    (.join (.seq (.ops [⟨some 30, none, .mv (.t 0)⟩,
      ⟨some 31, none, .mv (.t 2)⟩,
      ⟨some 32, none, .call (.k (.fn n_spec_l20Rd_odd [] [])) [.t 30, .t 31]⟩])
    (.cond (.t 32) (.seq (.join (.ops [⟨some 33, none, .mv (.t 7)⟩,
      ⟨some 34, none, .len (.t 33)⟩,
      ⟨some 35, none, .bin .eql (.t 34) (.k (.i .i64 0))⟩,
      ⟨some 36, none, .mv (.t 35)⟩,
      ⟨some 37, (some (36, false)), .mv (.t 0)⟩,
      ⟨some 38, (some (36, false)), .call (.k (.fn n_spec_l20Rd_pick [] [])) [.t 37, .k (.i .i64 2)]⟩,
      ⟨some 39, (some (36, false)), .bin .eql (.t 38) (.k (.i .i64 0))⟩,
      ⟨some 40, none, .pick (.t 36) (.k (.b true)) (.t 39)⟩])
    (.cond (.t 40) (.seq (.ops [⟨some 41, none, .mv (.t 7)⟩,
      ⟨some 42, none, .mv (.t 0)⟩,
      ⟨some 43, none, .call (.k (.fn n_spec_l20Rd_pick [] [])) [.t 42, .k (.i .i64 3)]⟩,
      ⟨some 44, none, .bsl ty_int [.i .i64 0] 1 [(0, 1, .t 43)]⟩,
      ⟨some 45, none, .app ty_int 1 8 (.t 41) (.t 44)⟩,
      ⟨some 6, none, .mv (.t 45)⟩])
    (.ret))
    (.skip)))
    (.ops [⟨some 46, none, .mv (.t 7)⟩,
      ⟨some 47, none, .mv (.t 0)⟩,
      ⟨some 48, none, .mv (.t 7)⟩,
      ⟨some 49, none, .len (.t 48)⟩,
      ⟨some 50, none, .call (.k (.fn n_spec_l20Rd_pick [] [])) [.t 47, .t 49]⟩,
      ⟨some 51, none, .mv (.t 1)⟩,
      ⟨some 52, none, .bsl ty_int [.i .i64 0] 3 [(0, 1, .k (.i .i64 (-1))), (1, 1, .t 51), (2, 1, .k (.i .i64 0))]⟩,
      ⟨some 53, none, .mv (.t 0)⟩,
      ⟨some 54, none, .call (.k (.fn n_spec_l20Rd_pick [] [])) [.t 53, .k (.i .i64 3)]⟩,
      ⟨some 55, none, .ia 1 (.t 52) (.t 54)⟩,
      ⟨some 56, none, .ld (.t 55)⟩,
      ⟨some 57, none, .ia 1 (.t 46) (.t 50)⟩,
      ⟨none, none, .st 1 (.t 57) (.t 56)⟩]))
    (.skip)))
    (.seq (.ops [⟨some 58, none, .mv (.t 7)⟩,
      ⟨some 6, none, .mv (.t 58)⟩])
    (.ret)))))
theorem k_spec_l20Order : chkF Try.prog Try.f47 59 c_spec_l20Order [.t 6] = true := by kernel_rfl
theorem call_spec_l20Order {args : List AV} {σ : List AB} {K : AV → List AB → Prop} (hn : args.length ≤ 59) (hw : wpC Try.prog σ.length 59 c_spec_l20Order (retP σ.length [.t 6] K) ⟨initT 0 args, σ⟩) : CallWp Try.prog n_spec_l20Order args σ K := call_fn mixed Try.func47 k_spec_l20Order hn hw
theorem callC_spec_l20Order {args : List AV} {σ : List AB} {K : AV → List AB → Prop} (hn : args.length ≤ 59) (hw : Closed σ → args.all (below1 σ.length) = true → wpC Try.prog σ.length 59 c_spec_l20Order (retP σ.length [.t 6] K) ⟨initT 0 args, σ⟩) : CallWp Try.prog n_spec_l20Order args σ K := call_fnC mixed Try.func47 k_spec_l20Order hn hw

-- loop.example/deadlinescheduler/spec.l20Jobs
-- a cut
-- a cut
-- region 24: a plan with 2 orders
-- a cut
-- l2_spec_l20Jobs: live at the head: 0 1 2 7 8 9 10 37 38 39 42 43 44 45 46 47 48 49 50 51 93 94 95
-- l1_spec_l20Jobs: live at the head: 0 1 2 7 8 9 10 11 37 38 39 42 43 44 45 46 47 48 49 50 51 93 94 95
-- l0_spec_l20Jobs: live at the head: 7
def l0_spec_l20Jobs : LC := .seq (.seq (.ops [⟨some 103, none, .mv (.t 7)⟩,
      ⟨some 104, none, .len (.t 103)⟩,
      ⟨some 105, none, .bin .leq (.t 104) (.k (.i .i64 60))⟩])
    (.cond (.t 105) (.skip)
    (.exit 5)))
    (.block 6 (.ops [⟨some 106, none, .mv (.t 7)⟩,
      ⟨some 107, none, .build [.i .i64 0, .i .i64 0, .i .i64 0, .i .i64 0] [(1, 1, .k (.i .i64 119)), (2, 1, .k (.i .i64 120)), (3, 1, .k (.i .i64 1))]⟩,
      ⟨some 108, none, .bsl ty_impl_Job [.i .i64 0, .i .i64 0, .i .i64 0, .i .i64 0] 1 [(0, 4, .t 107)]⟩,
      ⟨some 109, none, .app ty_impl_Job 4 32 (.t 106) (.t 108)⟩,
      ⟨some 7, none, .mv (.t 109)⟩]))
def l1_spec_l20Jobs : LC := .seq (.seq (.ops [⟨some 24, none, .mv (.t 11)⟩,
      ⟨some 25, none, .mv (.t 1)⟩,
      ⟨some 26, none, .len (.t 25)⟩,
      ⟨some 27, none, .bin .lss (.t 24) (.t 26)⟩])
    (.cond (.t 27) (.skip)
    (.exit 2)))
    (.seq (.block 3 (.seq (.join (.ops [⟨some 30, none, .mv (.t 10)⟩,
      ⟨some 31, none, .mv (.t 8)⟩,
      ⟨some 32, none, .mv (.t 11)⟩,
      ⟨some 33, none, .ia 1 (.t 31) (.t 32)⟩,
      ⟨some 34, none, .ld (.t 33)⟩,
      ⟨some 35, none, .bin .lss (.t 30) (.t 34)⟩,
      ⟨some 36, none, .mv (.t 35)⟩,
      ⟨some 37, (some (36, false)), .mv (.t 7)⟩,
      ⟨some 38, (some (36, false)), .len (.t 37)⟩,
      ⟨some 39, (some (36, false)), .bin .eql (.t 38) (.k (.i .i64 60))⟩,
      ⟨some 40, none, .pick (.t 36) (.k (.b true)) (.t 39)⟩,
      ⟨some 41, none, .mv (.t 40)⟩,
      ⟨some 42, (some (41, false)), .mv (.t 9)⟩,
      ⟨some 43, (some (41, false)), .bin .lss (.t 42) (.k (.i .i64 2))⟩,
      ⟨some 44, (some (41, false)), .mv (.t 43)⟩,
      ⟨some 45, (some (44, true)), .mv (.t 0)⟩,
      ⟨some 46, (some (44, true)), .mv (.t 9)⟩,
      ⟨some 47, (some (44, true)), .bin .mul (.k (.i .i64 7)) (.t 46)⟩,
      ⟨some 48, (some (44, true)), .bin .add (.k (.i .i64 3)) (.t 47)⟩,
      ⟨some 49, (some (44, true)), .call (.k (.fn n_spec_l20Rd_pick [] [])) [.t 45, .t 48]⟩,
      ⟨some 50, (some (44, true)), .bin .gtr (.t 49) (.k (.i .i64 1))⟩,
      ⟨some 51, (some (41, false)), .pick (.t 44) (.t 50) (.k (.b false))⟩,
      ⟨some 52, none, .pick (.t 41) (.k (.b true)) (.t 51)⟩])
    (.cond (.t 52) (.exit 3)
    (.skip)))
    (.seq (.ops [⟨some 53, none, .mv (.t 1)⟩,
      ⟨some 54, none, .mv (.t 11)⟩,
      ⟨some 55, none, .ia 3 (.t 53) (.t 54)⟩,
      ⟨some 56, none, .fa 0 (.t 55)⟩,
      ⟨some 57, none, .ld (.t 56)⟩,
      ⟨some 12, none, .mv (.t 57)⟩])
    (.join (.seq (.ops [⟨some 58, none, .mv (.t 0)⟩,
      ⟨some 59, none, .call (.k (.fn n_spec_l20Rd_pick [] [])) [.t 58, .k (.i .i64 3)]⟩,
      ⟨some 60, none, .bin .eql (.t 59) (.k (.i .i64 0))⟩])
    (.cond (.t 60) (.ops [⟨some 61, none, .mv (.t 0)⟩,
      ⟨some 62, none, .mv (.t 12)⟩,
      ⟨some 63, none, .call (.k (.fn n_spec_l20Rd_pick [] [])) [.t 61, .t 62]⟩,
      ⟨some 64, none, .bin .add (.k (.i .i64 1)) (.t 63)⟩,
      ⟨some 12, none, .mv (.t 64)⟩])
    (.skip)))
    (.seq (.ops [⟨some 65, none, .mv (.t 7)⟩,
      ⟨some 66, none, .mv (.t 11)⟩,
      ⟨some 67, none, .mv (.t 10)⟩,
      ⟨some 68, none, .mv (.t 10)⟩,
      ⟨some 69, none, .mv (.t 1)⟩,
      ⟨some 70, none, .mv (.t 11)⟩,
      ⟨some 71, none, .ia 3 (.t 69) (.t 70)⟩,
      ⟨some 72, none, .fa 1 (.t 71)⟩,
      ⟨some 73, none, .ld (.t 72)⟩,
      ⟨some 74, none, .bin .add (.t 68) (.t 73)⟩,
      ⟨some 75, none, .mv (.t 12)⟩,
      ⟨some 76, none, .build [.i .i64 0, .i .i64 0, .i .i64 0, .i .i64 0] [(0, 1, .t 66), (1, 1, .t 67), (2, 1, .t 74), (3, 1, .t 75)]⟩,
      ⟨some 77, none, .bsl ty_impl_Job [.i .i64 0, .i .i64 0, .i .i64 0, .i .i64 0] 1 [(0, 4, .t 76)]⟩,
      ⟨some 78, none, .app ty_impl_Job 4 32 (.t 65) (.t 77)⟩,
      ⟨some 7, none, .mv (.t 78)⟩])
    (.ops [⟨some 79, none, .mv (.t 8)⟩,
      ⟨some 80, none, .mv (.t 11)⟩,
      ⟨some 81, none, .mv (.t 10)⟩,
      ⟨some 82, none, .mv (.t 1)⟩,
      ⟨some 83, none, .mv (.t 11)⟩,
      ⟨some 84, none, .ia 3 (.t 82) (.t 83)⟩,
      ⟨some 85, none, .fa 2 (.t 84)⟩,
      ⟨some 86, none, .ld (.t 85)⟩,
      ⟨some 87, none, .bin .add (.t 81) (.t 86)⟩,
      ⟨some 88, none, .ia 1 (.t 79) (.t 80)⟩,
      ⟨none, none, .st 1 (.t 88) (.t 87)⟩]))))))
    (.ops [⟨some 28, none, .mv (.t 11)⟩,
      ⟨some 29, none, .bin .add (.t 28) (.k (.i .i64 1))⟩,
      ⟨some 11, none, .mv (.t 29)⟩]))
def l2_spec_l20Jobs : LC := .seq (.seq (.ops [⟨some 20, none, .mv (.t 10)⟩,
      ⟨some 21, none, .bin .lss (.t 20) (.k (.i .i64 100))⟩])
    (.cond (.t 21) (.skip)
    (.exit 0)))
    (.seq (.block 1 (.seq (.ops [⟨some 11, none, .mv (.k (.i .i64 0))⟩])
    (.block 2 (.loop l1_spec_l20Jobs))))
    (.ops [⟨some 22, none, .mv (.t 10)⟩,
      ⟨some 23, none, .bin .add (.t 22) (.k (.i .i64 1))⟩,
      ⟨some 10, none, .mv (.t 23)⟩]))
def c_spec_l20Jobs : LC := .seq (.ops [⟨some 6, none, .mv (.k (.sn))⟩])
    (.seq (.ops [⟨some 14, none, .bsl ty_impl_Job [.i .i64 0, .i .i64 0, .i .i64 0, .i .i64 0] 0 []⟩,
      ⟨some 7, none, .mv (.t 14)⟩])
    (.seq (.ops [⟨some 15, none, .mv (.t 1)⟩,
      ⟨some 16, none, .len (.t 15)⟩,
      ⟨some 17, none, .msl ty_int 8 [.i .i64 0] (.t 16)⟩,
      ⟨some 8, none, .mv (.t 17)⟩])
    (.seq (.ops [⟨some 18, none, .mv (.t 0)⟩,
      ⟨some 19, none, .call (.k (.fn n_spec_l20Rd_pick [] [])) [.t 18, .k (.i .i64 3)]⟩,
      ⟨some 9, none, .mv (.t 19)⟩])
    (.seq (.seq (.ops [⟨some 10, none, .mv (.k (.i .i64 0))⟩])
    (.block 0 (.loop l2_spec_l20Jobs)))
    (.join (.seq (.ops [⟨some 89, none, .mv (.t 0)⟩,
      ⟨some 90, none, .mv (.t 2)⟩,
      ⟨some 91, none, .call (.k (.fn n_spec_l20Rd_odd [] [])) [.t 89, .t 90]⟩,
      ⟨some 92, none, .mv (.t 91)⟩,
      ⟨some 93, (some (92, true)), .mv (.t 7)⟩,
      ⟨some 94, (some (92, true)), .len (.t 93)⟩,
      ⟨some 95, (some (92, true)), .bin .gtr (.t 94) (.k (.i .i64 0))⟩,
      ⟨some 96, none, .pick (.t 92) (.t 95) (.k (.b false))⟩])
    (.cond (.t 96) (.seq (.ops [⟨some 97, none, .mv (.t 0)⟩,
      ⟨some 98, none, .mv (.t 7)⟩,
      ⟨some 99, none, .len (.t 98)⟩,
      ⟨some 100, none, .call (.k (.fn n_spec_l20Rd_pick [] [])) [.t 97, .t 99]⟩,
      ⟨some 13, none, .mv (.t 100)⟩])
    (.seq (.ops [⟨some 101, none, .mv (.t 0)⟩,
      ⟨some 102, none, .call (.k (.fn n_spec_l20Rd_pick [] [])) [.t 101, .k (.i .i64 6)]⟩])
    (.block 4 (.seq (.ops [⟨some 111, none, .bin .eql (.t 102) (.k (.i .i64 0))⟩,
      ⟨some 110, none, .mv (.t 111)⟩])
    (.cond (.t 110) (.ops [⟨some 112, none, .mv (.t 7)⟩,
      ⟨some 113, none, .mv (.t 13)⟩,
      ⟨some 114, none, .mv (.t 1)⟩,
      ⟨some 115, none, .len (.t 114)⟩,
      ⟨some 116, none, .bsl ty_int [.i .i64 0] 2 [(0, 1, .k (.i .i64 (-1))), (1, 1, .t 115)]⟩,
      ⟨some 117, none, .mv (.t 0)⟩,
      ⟨some 118, none, .call (.k (.fn n_spec_l20Rd_pick [] [])) [.t 117, .k (.i .i64 2)]⟩,
      ⟨some 119, none, .ia 1 (.t 116) (.t 118)⟩,
      ⟨some 120, none, .ld (.t 119)⟩,
      ⟨some 121, none, .ia 4 (.t 112) (.t 113)⟩,
      ⟨some 122, none, .fa 0 (.t 121)⟩,
      ⟨none, none, .st 1 (.t 122) (.t 120)⟩])
    (.seq (.ops [⟨some 124, none, .bin .eql (.t 102) (.k (.i .i64 1))⟩,
      ⟨some 123, none, .mv (.t 124)⟩])
    (.cond (.t 123) (.plan [0, 1, 2, 3, 4, 5, 6, 7, 9] [⟨some 125, none, .mv (.t 7)⟩,
      ⟨some 126, none, .mv (.t 13)⟩,
      ⟨some 127, none, .mv (.t 7)⟩,
      ⟨some 128, none, .mv (.t 13)⟩,
      ⟨some 129, none, .ia 4 (.t 127) (.t 128)⟩,
      ⟨some 130, none, .fa 1 (.t 129)⟩,
      ⟨some 131, none, .ld (.t 130)⟩,
      ⟨some 132, none, .bin .add (.t 131) (.k (.i .i64 1))⟩,
      ⟨some 134, none, .mv (.t 0)⟩]
      (.alt (.one 8 ⟨some 133, none, .bsl ty_int [.i .i64 0] 3 [(0, 1, .k (.i .i64 (-1))), (1, 1, .k (.i .i64 120)), (2, 1, .t 132)]⟩ [(131, none, 130)] []
        []
      (.one 10 ⟨some 135, none, .call (.k (.fn n_spec_l20Rd_pick [] [])) [.t 134, .k (.i .i64 3)]⟩ [(131, none, 130)] [11, 12, 13, 14]
        [⟨some 136, none, .ia 1 (.t 133) (.t 135)⟩,
        ⟨some 137, none, .ld (.t 136)⟩,
        ⟨some 138, none, .ia 4 (.t 125) (.t 126)⟩,
        ⟨some 139, none, .fa 1 (.t 138)⟩]
      (.one 15 ⟨none, none, .st 1 (.t 139) (.t 137)⟩ [] []
        []
      .fin))) (.one 10 ⟨some 135, none, .call (.k (.fn n_spec_l20Rd_pick [] [])) [.t 134, .k (.i .i64 3)]⟩ [(131, none, 130)] []
        []
      (.one 8 ⟨some 133, none, .bsl ty_int [.i .i64 0] 3 [(0, 1, .k (.i .i64 (-1))), (1, 1, .k (.i .i64 120)), (2, 1, .t 132)]⟩ [(131, none, 130)] [11, 12, 13, 14]
        [⟨some 136, none, .ia 1 (.t 133) (.t 135)⟩,
        ⟨some 137, none, .ld (.t 136)⟩,
        ⟨some 138, none, .ia 4 (.t 125) (.t 126)⟩,
        ⟨some 139, none, .fa 1 (.t 138)⟩]
      (.one 15 ⟨none, none, .st 1 (.t 139) (.t 137)⟩ [] []
        []
      .fin)))))
    (.seq (.ops [⟨some 141, none, .bin .eql (.t 102) (.k (.i .i64 2))⟩,
      ⟨some 140, none, .mv (.t 141)⟩])
    (.cond (.t 140) (.ops [⟨some 142, none, .mv (.t 7)⟩,
      ⟨some 143, none, .mv (.t 13)⟩,
      ⟨some 144, none, .mv (.t 7)⟩,
      ⟨some 145, none, .mv (.t 13)⟩,
      ⟨some 146, none, .ia 4 (.t 144) (.t 145)⟩,
      ⟨some 147, none, .fa 2 (.t 146)⟩,
      ⟨some 148, none, .ld (.t 147)⟩,
      ⟨some 149, none, .bin .add (.t 148) (.k (.i .i64 1))⟩,
      ⟨some 150, none, .ia 4 (.t 142) (.t 143)⟩,
      ⟨some 151, none, .fa 2 (.t 150)⟩,
      ⟨none, none, .st 1 (.t 151) (.t 149)⟩])
    (.seq (.ops [⟨some 153, none, .bin .eql (.t 102) (.k (.i .i64 3))⟩,
      ⟨some 152, none, .mv (.t 153)⟩])
    (.cond (.t 152) (.ops [⟨some 154, none, .mv (.t 7)⟩,
      ⟨some 155, none, .mv (.t 13)⟩,
      ⟨some 156, none, .bsl ty_int [.i .i64 0] 2 [(0, 1, .k (.i .i64 0)), (1, 1, .k (.i .i64 9))]⟩,
      ⟨some 157, none, .mv (.t 0)⟩,
      ⟨some 158, none, .call (.k (.fn n_spec_l20Rd_pick [] [])) [.t 157, .k (.i .i64 2)]⟩,
      ⟨some 159, none, .ia 1 (.t 156) (.t 158)⟩,
      ⟨some 160, none, .ld (.t 159)⟩,
      ⟨some 161, none, .ia 4 (.t 154) (.t 155)⟩,
      ⟨some 162, none, .fa 3 (.t 161)⟩,
      ⟨none, none, .st 1 (.t 162) (.t 160)⟩])
    (.seq (.ops [⟨some 164, none, .bin .eql (.t 102) (.k (.i .i64 4))⟩,
      ⟨some 163, none, .mv (.t 164)⟩])
    (.cond (.t 163) (.ops [⟨some 165, none, .mv (.t 7)⟩,
      ⟨some 166, none, .mv (.t 7)⟩,
      ⟨some 167, none, .mv (.t 13)⟩,
      ⟨some 168, none, .ia 4 (.t 166) (.t 167)⟩,
      ⟨some 169, none, .ldn 4 (.t 168)⟩,
      ⟨some 170, none, .bsl ty_impl_Job [.i .i64 0, .i .i64 0, .i .i64 0, .i .i64 0] 1 [(0, 4, .t 169)]⟩,
      ⟨some 171, none, .app ty_impl_Job 4 32 (.t 165) (.t 170)⟩,
      ⟨some 7, none, .mv (.t 171)⟩])
    (.block 5 (.loop l0_spec_l20Jobs)))))))))))))))
    (.skip)))
    (.seq (.ops [⟨some 172, none, .mv (.t 7)⟩,
      ⟨some 6, none, .mv (.t 172)⟩])
    (.ret)))))))
theorem k_spec_l20Jobs : chkF Try.prog Try.f48 173 c_spec_l20Jobs [.t 6] = true := by kernel_rfl
theorem call_spec_l20Jobs {args : List AV} {σ : List AB} {K : AV → List AB → Prop} (hn : args.length ≤ 173) (hw : wpC Try.prog σ.length 173 c_spec_l20Jobs (retP σ.length [.t 6] K) ⟨initT 0 args, σ⟩) : CallWp Try.prog n_spec_l20Jobs args σ K := call_fn mixed Try.func48 k_spec_l20Jobs hn hw
theorem callC_spec_l20Jobs {args : List AV} {σ : List AB} {K : AV → List AB → Prop} (hn : args.length ≤ 173) (hw : Closed σ → args.all (below1 σ.length) = true → wpC Try.prog σ.length 173 c_spec_l20Jobs (retP σ.length [.t 6] K) ⟨initT 0 args, σ⟩) : CallWp Try.prog n_spec_l20Jobs args σ K := call_fnC mixed Try.func48 k_spec_l20Jobs hn hw

-- loop.example/deadlinescheduler/impl.simulate
-- region 6 draws, 7 of 9 first
-- region 9 draws, 13 of 13 first
-- region 10 draws, 8 of 10 first
-- l0_impl_simulate: live at the head: 0 1 4 5 6
def l0_impl_simulate : LC := .seq (.seq (.ops [⟨some 15, none, .mv (.t 5)⟩,
      ⟨some 16, none, .nilc (.t 15)⟩,
      ⟨some 17, none, .fa 2 (.t 16)⟩,
      ⟨some 18, none, .ld (.t 17)⟩,
      ⟨some 19, none, .bin .lss (.t 18) (.k (.i .i64 120))⟩])
    (.cond (.t 19) (.skip)
    (.exit 0)))
    (.seq (.block 1 (.seq (.ops [⟨some 27, none, .mv (.t 1)⟩,
      ⟨some 28, none, .mv (.t 5)⟩,
      ⟨some 29, none, .call (.t 27) [.t 28]⟩,
      ⟨some 7, none, .mv (.t 29)⟩])
    (.seq (.draw 7 [⟨some 30, none, .fa 0 (.t 6)⟩,
      ⟨some 31, none, .ld (.t 30)⟩,
      ⟨some 32, none, .mv (.t 5)⟩,
      ⟨some 33, none, .nilc (.t 32)⟩,
      ⟨some 34, none, .fa 2 (.t 33)⟩,
      ⟨some 35, none, .ld (.t 34)⟩,
      ⟨some 36, none, .mv (.t 7)⟩,
      ⟨some 37, none, .ia 1 (.t 31) (.t 35)⟩,
      ⟨none, none, .st 1 (.t 37) (.t 36)⟩])
    (.seq (.seq (.ops [⟨some 38, none, .mv (.t 7)⟩,
      ⟨some 39, none, .bin .lss (.t 38) (.k (.i .i64 0))⟩])
    (.cond (.t 39) (.exit 1)
    (.skip)))
    (.seq (.ops [⟨some 40, none, .mv (.t 5)⟩,
      ⟨some 41, none, .nilc (.t 40)⟩,
      ⟨some 42, none, .fa 1 (.t 41)⟩,
      ⟨some 43, none, .ld (.t 42)⟩,
      ⟨some 44, none, .mv (.t 7)⟩,
      ⟨some 45, none, .ia 1 (.t 43) (.t 44)⟩,
      ⟨some 46, none, .ld (.t 45)⟩,
      ⟨some 47, none, .bin .add (.t 46) (.k (.i .i64 1))⟩,
      ⟨some 48, none, .ia 1 (.t 43) (.t 44)⟩,
      ⟨none, none, .st 1 (.t 48) (.t 47)⟩])
    (.seq (.draw 13 [⟨some 49, none, .mv (.t 5)⟩,
      ⟨some 50, none, .nilc (.t 49)⟩,
      ⟨some 51, none, .fa 1 (.t 50)⟩,
      ⟨some 52, none, .ld (.t 51)⟩,
      ⟨some 53, none, .mv (.t 7)⟩,
      ⟨some 54, none, .ia 1 (.t 52) (.t 53)⟩,
      ⟨some 55, none, .ld (.t 54)⟩,
      ⟨some 56, none, .mv (.t 0)⟩,
      ⟨some 57, none, .mv (.t 7)⟩,
      ⟨some 58, none, .ia 4 (.t 56) (.t 57)⟩,
      ⟨some 59, none, .fa 3 (.t 58)⟩,
      ⟨some 60, none, .ld (.t 59)⟩,
      ⟨some 61, none, .bin .eql (.t 55) (.t 60)⟩])
    (.cond (.t 61) (.draw 8 [⟨some 62, none, .fa 1 (.t 6)⟩,
      ⟨some 63, none, .ld (.t 62)⟩,
      ⟨some 64, none, .mv (.t 7)⟩,
      ⟨some 65, none, .mv (.t 5)⟩,
      ⟨some 66, none, .nilc (.t 65)⟩,
      ⟨some 67, none, .fa 2 (.t 66)⟩,
      ⟨some 68, none, .ld (.t 67)⟩,
      ⟨some 69, none, .bin .add (.t 68) (.k (.i .i64 1))⟩,
      ⟨some 70, none, .ia 1 (.t 63) (.t 64)⟩,
      ⟨none, none, .st 1 (.t 70) (.t 69)⟩])
    (.skip))))))))
    (.ops [⟨some 20, none, .mv (.t 5)⟩,
      ⟨some 21, none, .nilc (.t 20)⟩,
      ⟨some 22, none, .fa 2 (.t 21)⟩,
      ⟨some 23, none, .ld (.t 22)⟩,
      ⟨some 24, none, .bin .add (.t 23) (.k (.i .i64 1))⟩,
      ⟨some 25, none, .nilc (.t 20)⟩,
      ⟨some 26, none, .fa 2 (.t 25)⟩,
      ⟨none, none, .st 1 (.t 26) (.t 24)⟩]))
def c_impl_simulate : LC := .seq (.ops [⟨some 4, none, .alloc ty_impl_Schedule [.sn, .sn]⟩])
    (.seq (.ops [⟨some 8, none, .mv (.t 0)⟩,
      ⟨some 9, none, .call (.k (.fn n_impl_newMachine [] [])) [.t 8]⟩,
      ⟨some 5, none, .mv (.t 9)⟩])
    (.seq (.ops [⟨some 10, none, .call (.k (.fn n_impl_none [] [])) [.k (.i .i64 120)]⟩,
      ⟨some 11, none, .mv (.t 0)⟩,
      ⟨some 12, none, .len (.t 11)⟩,
      ⟨some 13, none, .call (.k (.fn n_impl_none [] [])) [.t 12]⟩,
      ⟨some 14, none, .build [.sn, .sn] [(0, 1, .t 10), (1, 1, .t 13)]⟩,
      ⟨some 6, none, .alloc ty_impl_Schedule [.sn, .sn]⟩,
      ⟨none, none, .st 2 (.t 6) (.t 14)⟩])
    (.seq (.block 0 (.loop l0_impl_simulate))
    (.seq (.ops [⟨some 71, none, .ldn 2 (.t 6)⟩,
      ⟨none, none, .st 2 (.t 4) (.t 71)⟩])
    (.ret)))))
theorem k_impl_simulate : chkF Try.prog Try.f49 72 c_impl_simulate [.c 4 (some 2)] = true := by kernel_rfl
theorem call_impl_simulate {args : List AV} {σ : List AB} {K : AV → List AB → Prop} (hn : args.length ≤ 72) (hw : wpC Try.prog σ.length 72 c_impl_simulate (retP σ.length [.c 4 (some 2)] K) ⟨initT 0 args, σ⟩) : CallWp Try.prog n_impl_simulate args σ K := call_fn mixed Try.func49 k_impl_simulate hn hw
theorem callC_impl_simulate {args : List AV} {σ : List AB} {K : AV → List AB → Prop} (hn : args.length ≤ 72) (hw : Closed σ → args.all (below1 σ.length) = true → wpC Try.prog σ.length 72 c_impl_simulate (retP σ.length [.c 4 (some 2)] K) ⟨initT 0 args, σ⟩) : CallWp Try.prog n_impl_simulate args σ K := call_fnC mixed Try.func49 k_impl_simulate hn hw

-- loop.example/deadlinescheduler/impl.fixed
def c_impl_fixed : LC := .seq (.ops [⟨some 1, none, .box ty_sl_int (.t 0)⟩,
      ⟨some 2, none, .mv (.k (.fnil))⟩])
    (.seq (.ops [⟨some 3, none, .mkf n_impl_fixed_1 [] [.t 1]⟩,
      ⟨some 2, none, .mv (.t 3)⟩])
    (.ret))
theorem k_impl_fixed : chkF Try.prog Try.f50 4 c_impl_fixed [.t 2] = true := by kernel_rfl
theorem call_impl_fixed {args : List AV} {σ : List AB} {K : AV → List AB → Prop} (hn : args.length ≤ 4) (hw : wpC Try.prog σ.length 4 c_impl_fixed (retP σ.length [.t 2] K) ⟨initT 0 args, σ⟩) : CallWp Try.prog n_impl_fixed args σ K := call_fn mixed Try.func50 k_impl_fixed hn hw
theorem callC_impl_fixed {args : List AV} {σ : List AB} {K : AV → List AB → Prop} (hn : args.length ≤ 4) (hw : Closed σ → args.all (below1 σ.length) = true → wpC Try.prog σ.length 4 c_impl_fixed (retP σ.length [.t 2] K) ⟨initT 0 args, σ⟩) : CallWp Try.prog n_impl_fixed args σ K := call_fnC mixed Try.func50 k_impl_fixed hn hw

-- loop.example/deadlinescheduler/spec.l4Index
-- l0_spec_l4Index: live at the head: 0 1 5
def l0_spec_l4Index : LC := .seq (.seq (.ops [⟨some 6, none, .mv (.t 5)⟩,
      ⟨some 7, none, .mv (.t 0)⟩,
      ⟨some 8, none, .len (.t 7)⟩,
      ⟨some 9, none, .bin .lss (.t 6) (.t 8)⟩])
    (.cond (.t 9) (.skip)
    (.exit 0)))
    (.seq (.block 1 (.seq (.ops [⟨some 12, none, .mv (.t 0)⟩,
      ⟨some 13, none, .mv (.t 5)⟩,
      ⟨some 14, none, .ia 1 (.t 12) (.t 13)⟩,
      ⟨some 15, none, .ld (.t 14)⟩,
      ⟨some 16, none, .mv (.t 1)⟩,
      ⟨some 17, none, .bin .eql (.t 15) (.t 16)⟩])
    (.cond (.t 17) (.seq (.ops [⟨some 18, none, .mv (.t 5)⟩,
      ⟨some 4, none, .mv (.t 18)⟩])
    (.ret))
    (.skip))))
    (.ops [⟨some 10, none, .mv (.t 5)⟩,
      ⟨some 11, none, .bin .add (.t 10) (.k (.i .i64 1))⟩,
      ⟨some 5, none, .mv (.t 11)⟩]))
def c_spec_l4Index : LC := .seq (.ops [⟨some 4, none, .mv (.k (.i .i64 0))⟩])
    (.seq (.seq (.ops [⟨some 5, none, .mv (.k (.i .i64 0))⟩])
    (.block 0 (.loop l0_spec_l4Index)))
    (.seq (.ops [⟨some 4, none, .mv (.k (.i .i64 (-1)))⟩])
    (.ret)))
theorem k_spec_l4Index : chkF Try.prog Try.f51 19 c_spec_l4Index [.t 4] = true := by kernel_rfl
theorem call_spec_l4Index {args : List AV} {σ : List AB} {K : AV → List AB → Prop} (hn : args.length ≤ 19) (hw : wpC Try.prog σ.length 19 c_spec_l4Index (retP σ.length [.t 4] K) ⟨initT 0 args, σ⟩) : CallWp Try.prog n_spec_l4Index args σ K := call_fn mixed Try.func51 k_spec_l4Index hn hw
theorem callC_spec_l4Index {args : List AV} {σ : List AB} {K : AV → List AB → Prop} (hn : args.length ≤ 19) (hw : Closed σ → args.all (below1 σ.length) = true → wpC Try.prog σ.length 19 c_spec_l4Index (retP σ.length [.t 4] K) ⟨initT 0 args, σ⟩) : CallWp Try.prog n_spec_l4Index args σ K := call_fnC mixed Try.func51 k_spec_l4Index hn hw

-- loop.example/deadlinescheduler/spec.l3Run
-- l1_spec_l3Run: live at the head: 0 1 4 5 6 7
-- l0_spec_l3Run: live at the head: 0 1 4 5 6 8
def l0_spec_l3Run : LC := .seq (.seq (.ops [⟨some 31, none, .mv (.t 8)⟩,
      ⟨some 32, none, .bin .lss (.t 31) (.k (.i .i64 120))⟩])
    (.cond (.t 32) (.skip)
    (.exit 2)))
    (.seq (.block 3 (.seq (.ops [⟨some 35, none, .mv (.t 0)⟩,
      ⟨some 36, none, .mv (.t 6)⟩,
      ⟨some 37, none, .mv (.t 1)⟩,
      ⟨some 38, none, .mv (.t 8)⟩,
      ⟨some 39, none, .call (.k (.fn n_spec_l3Best [] [])) [.t 35, .t 36, .t 37, .t 38]⟩,
      ⟨some 9, none, .mv (.t 39)⟩])
    (.seq (.ops [⟨some 40, none, .fa 0 (.t 5)⟩,
      ⟨some 41, none, .ld (.t 40)⟩,
      ⟨some 42, none, .mv (.t 9)⟩,
      ⟨some 43, none, .bsl ty_int [.i .i64 0] 1 [(0, 1, .t 42)]⟩,
      ⟨some 44, none, .app ty_int 1 8 (.t 41) (.t 43)⟩,
      ⟨some 45, none, .fa 0 (.t 5)⟩,
      ⟨none, none, .st 1 (.t 45) (.t 44)⟩])
    (.seq (.ops [⟨some 46, none, .mv (.t 9)⟩,
      ⟨some 47, none, .bin .geq (.t 46) (.k (.i .i64 0))⟩])
    (.cond (.t 47) (.seq (.ops [⟨some 48, none, .mv (.t 6)⟩,
      ⟨some 49, none, .mv (.t 9)⟩,
      ⟨some 50, none, .mv (.t 6)⟩,
      ⟨some 51, none, .mv (.t 9)⟩,
      ⟨some 52, none, .ia 1 (.t 50) (.t 51)⟩,
      ⟨some 53, none, .ld (.t 52)⟩,
      ⟨some 54, none, .bin .sub (.t 53) (.k (.i .i64 1))⟩,
      ⟨some 55, none, .ia 1 (.t 48) (.t 49)⟩,
      ⟨none, none, .st 1 (.t 55) (.t 54)⟩])
    (.seq (.ops [⟨some 56, none, .mv (.t 6)⟩,
      ⟨some 57, none, .mv (.t 9)⟩,
      ⟨some 58, none, .ia 1 (.t 56) (.t 57)⟩,
      ⟨some 59, none, .ld (.t 58)⟩,
      ⟨some 60, none, .bin .eql (.t 59) (.k (.i .i64 0))⟩])
    (.cond (.t 60) (.ops [⟨some 61, none, .fa 1 (.t 5)⟩,
      ⟨some 62, none, .ld (.t 61)⟩,
      ⟨some 63, none, .mv (.t 9)⟩,
      ⟨some 64, none, .mv (.t 8)⟩,
      ⟨some 65, none, .bin .add (.t 64) (.k (.i .i64 1))⟩,
      ⟨some 66, none, .ia 1 (.t 62) (.t 63)⟩,
      ⟨none, none, .st 1 (.t 66) (.t 65)⟩])
    (.skip))))
    (.skip))))))
    (.ops [⟨some 33, none, .mv (.t 8)⟩,
      ⟨some 34, none, .bin .add (.t 33) (.k (.i .i64 1))⟩,
      ⟨some 8, none, .mv (.t 34)⟩]))
def l1_spec_l3Run : LC := .seq (.seq (.ops [⟨some 12, none, .mv (.t 7)⟩,
      ⟨some 13, none, .mv (.t 0)⟩,
      ⟨some 14, none, .len (.t 13)⟩,
      ⟨some 15, none, .bin .lss (.t 12) (.t 14)⟩])
    (.cond (.t 15) (.skip)
    (.exit 0)))
    (.seq (.block 1 (.seq (.ops [⟨some 18, none, .mv (.t 6)⟩,
      ⟨some 19, none, .mv (.t 0)⟩,
      ⟨some 20, none, .mv (.t 7)⟩,
      ⟨some 21, none, .ia 4 (.t 19) (.t 20)⟩,
      ⟨some 22, none, .fa 3 (.t 21)⟩,
      ⟨some 23, none, .ld (.t 22)⟩,
      ⟨some 24, none, .bsl ty_int [.i .i64 0] 1 [(0, 1, .t 23)]⟩,
      ⟨some 25, none, .app ty_int 1 8 (.t 18) (.t 24)⟩,
      ⟨some 6, none, .mv (.t 25)⟩])
    (.ops [⟨some 26, none, .fa 1 (.t 5)⟩,
      ⟨some 27, none, .ld (.t 26)⟩,
      ⟨some 28, none, .bsl ty_int [.i .i64 0] 1 [(0, 1, .k (.i .i64 (-1)))]⟩,
      ⟨some 29, none, .app ty_int 1 8 (.t 27) (.t 28)⟩,
      ⟨some 30, none, .fa 1 (.t 5)⟩,
      ⟨none, none, .st 1 (.t 30) (.t 29)⟩])))
    (.ops [⟨some 16, none, .mv (.t 7)⟩,
      ⟨some 17, none, .bin .add (.t 16) (.k (.i .i64 1))⟩,
      ⟨some 7, none, .mv (.t 17)⟩]))
def c_spec_l3Run : LC := .seq (.ops [⟨some 4, none, .alloc ty_impl_Schedule [.sn, .sn]⟩])
    (.seq (.ops [⟨some 10, none, .build [.sn, .sn] []⟩,
      ⟨some 5, none, .alloc ty_impl_Schedule [.sn, .sn]⟩,
      ⟨none, none, .st 2 (.t 5) (.t 10)⟩])
    (.seq (.ops [⟨some 11, none, .bsl ty_int [.i .i64 0] 0 []⟩,
      ⟨some 6, none, .mv (.t 11)⟩])
    (.seq (.seq (.ops [⟨some 7, none, .mv (.k (.i .i64 0))⟩])
    (.block 0 (.loop l1_spec_l3Run)))
    (.seq (.seq (.ops [⟨some 8, none, .mv (.k (.i .i64 0))⟩])
    (.block 2 (.loop l0_spec_l3Run)))
    (.seq (.ops [⟨some 67, none, .ldn 2 (.t 5)⟩,
      ⟨none, none, .st 2 (.t 4) (.t 67)⟩])
    (.ret))))))
theorem k_spec_l3Run : chkF Try.prog Try.f52 68 c_spec_l3Run [.c 4 (some 2)] = true := by kernel_rfl
theorem call_spec_l3Run {args : List AV} {σ : List AB} {K : AV → List AB → Prop} (hn : args.length ≤ 68) (hw : wpC Try.prog σ.length 68 c_spec_l3Run (retP σ.length [.c 4 (some 2)] K) ⟨initT 0 args, σ⟩) : CallWp Try.prog n_spec_l3Run args σ K := call_fn mixed Try.func52 k_spec_l3Run hn hw
theorem callC_spec_l3Run {args : List AV} {σ : List AB} {K : AV → List AB → Prop} (hn : args.length ≤ 68) (hw : Closed σ → args.all (below1 σ.length) = true → wpC Try.prog σ.length 68 c_spec_l3Run (retP σ.length [.c 4 (some 2)] K) ⟨initT 0 args, σ⟩) : CallWp Try.prog n_spec_l3Run args σ K := call_fnC mixed Try.func52 k_spec_l3Run hn hw

-- loop.example/deadlinescheduler/impl.TaskValid
def c_impl_TaskValid : LC := .seq (.ops [⟨some 1, none, .box ty_impl_Task (.t 0)⟩,
      ⟨some 2, none, .mv (.k (.b false))⟩])
    (.seq (.ops [⟨some 3, none, .fa 0 (.t 1)⟩,
      ⟨some 4, none, .ld (.t 3)⟩,
      ⟨some 5, none, .call (.k (.fn n_impl_in [] [])) [.t 4, .k (.i .i64 1), .k (.i .i64 8)]⟩,
      ⟨some 6, none, .mv (.t 5)⟩,
      ⟨some 7, (some (6, true)), .fa 1 (.t 1)⟩,
      ⟨some 8, (some (6, true)), .ld (.t 7)⟩,
      ⟨some 9, (some (6, true)), .fa 0 (.t 1)⟩,
      ⟨some 10, (some (6, true)), .ld (.t 9)⟩,
      ⟨some 11, (some (6, true)), .fa 2 (.t 1)⟩,
      ⟨some 12, (some (6, true)), .ld (.t 11)⟩,
      ⟨some 13, (some (6, true)), .call (.k (.fn n_impl_in [] [])) [.t 8, .t 10, .t 12]⟩,
      ⟨some 14, none, .pick (.t 6) (.t 13) (.k (.b false))⟩,
      ⟨some 15, none, .mv (.t 14)⟩,
      ⟨some 16, (some (15, true)), .fa 2 (.t 1)⟩,
      ⟨some 17, (some (15, true)), .ld (.t 16)⟩,
      ⟨some 18, (some (15, true)), .bin .leq (.t 17) (.k (.i .i64 12))⟩,
      ⟨some 19, none, .pick (.t 15) (.t 18) (.k (.b false))⟩,
      ⟨some 2, none, .mv (.t 19)⟩])
    (.ret))
theorem k_impl_TaskValid : chkF Try.prog Try.f53 20 c_impl_TaskValid [.t 2] = true := by kernel_rfl
theorem call_impl_TaskValid {args : List AV} {σ : List AB} {K : AV → List AB → Prop} (hn : args.length ≤ 20) (hw : wpC Try.prog σ.length 20 c_impl_TaskValid (retP σ.length [.t 2] K) ⟨initT 0 args, σ⟩) : CallWp Try.prog n_impl_TaskValid args σ K := call_fn mixed Try.func53 k_impl_TaskValid hn hw
theorem callC_impl_TaskValid {args : List AV} {σ : List AB} {K : AV → List AB → Prop} (hn : args.length ≤ 20) (hw : Closed σ → args.all (below1 σ.length) = true → wpC Try.prog σ.length 20 c_impl_TaskValid (retP σ.length [.t 2] K) ⟨initT 0 args, σ⟩) : CallWp Try.prog n_impl_TaskValid args σ K := call_fnC mixed Try.func53 k_impl_TaskValid hn hw

-- loop.example/deadlinescheduler/spec.l1In
def c_spec_l1In : LC := .seq (.ops [⟨some 6, none, .mv (.k (.b false))⟩])
    (.seq (.ops [⟨some 7, none, .mv (.t 0)⟩,
      ⟨some 8, none, .mv (.t 1)⟩,
      ⟨some 9, none, .bin .geq (.t 7) (.t 8)⟩,
      ⟨some 10, none, .mv (.t 9)⟩,
      ⟨some 11, (some (10, true)), .mv (.t 0)⟩,
      ⟨some 12, (some (10, true)), .mv (.t 2)⟩,
      ⟨some 13, (some (10, true)), .bin .leq (.t 11) (.t 12)⟩,
      ⟨some 14, none, .pick (.t 10) (.t 13) (.k (.b false))⟩,
      ⟨some 6, none, .mv (.t 14)⟩])
    (.ret))
theorem k_spec_l1In : chkF Try.prog Try.f54 15 c_spec_l1In [.t 6] = true := by kernel_rfl
theorem call_spec_l1In {args : List AV} {σ : List AB} {K : AV → List AB → Prop} (hn : args.length ≤ 15) (hw : wpC Try.prog σ.length 15 c_spec_l1In (retP σ.length [.t 6] K) ⟨initT 0 args, σ⟩) : CallWp Try.prog n_spec_l1In args σ K := call_fn mixed Try.func54 k_spec_l1In hn hw
theorem callC_spec_l1In {args : List AV} {σ : List AB} {K : AV → List AB → Prop} (hn : args.length ≤ 15) (hw : Closed σ → args.all (below1 σ.length) = true → wpC Try.prog σ.length 15 c_spec_l1In (retP σ.length [.t 6] K) ⟨initT 0 args, σ⟩) : CallWp Try.prog n_spec_l1In args σ K := call_fnC mixed Try.func54 k_spec_l1In hn hw

-- loop.example/deadlinescheduler/impl.missed
-- region 7 draws, 19 of 19 first
-- l0_impl_missed: live at the head: 1 5 13 14 15 24 25 26 27 28 29 30 31 32 33 34 35 36 37
def l0_impl_missed : LC := .seq (.ops [⟨some 16, none, .bin .lss (.t 15) (.t 14)⟩])
    (.seq (.cond (.t 16) (.skip)
    (.exit 0))
    (.seq (.block 1 (.seq (.ops [⟨some 17, none, .mv (.t 15)⟩,
      ⟨some 18, none, .ia 4 (.t 13) (.t 15)⟩,
      ⟨some 19, none, .ldn 4 (.t 18)⟩,
      ⟨some 7, none, .alloc ty_impl_Job [.i .i64 0, .i .i64 0, .i .i64 0, .i .i64 0]⟩,
      ⟨some 6, none, .mv (.t 17)⟩,
      ⟨none, none, .st 4 (.t 7) (.t 19)⟩])
    (.seq (.draw 19 [⟨some 20, none, .fa 2 (.t 7)⟩,
      ⟨some 21, none, .ld (.t 20)⟩,
      ⟨some 22, none, .bin .leq (.t 21) (.k (.i .i64 120))⟩,
      ⟨some 23, none, .mv (.t 22)⟩,
      ⟨some 24, (some (23, true)), .mv (.t 1)⟩,
      ⟨some 25, (some (23, true)), .mv (.t 6)⟩,
      ⟨some 26, (some (23, true)), .ia 1 (.t 24) (.t 25)⟩,
      ⟨some 27, (some (23, true)), .ld (.t 26)⟩,
      ⟨some 28, (some (23, true)), .bin .lss (.t 27) (.k (.i .i64 0))⟩,
      ⟨some 29, (some (23, true)), .mv (.t 28)⟩,
      ⟨some 30, (some (29, false)), .mv (.t 1)⟩,
      ⟨some 31, (some (29, false)), .mv (.t 6)⟩,
      ⟨some 32, (some (29, false)), .ia 1 (.t 30) (.t 31)⟩,
      ⟨some 33, (some (29, false)), .ld (.t 32)⟩,
      ⟨some 34, (some (29, false)), .fa 2 (.t 7)⟩,
      ⟨some 35, (some (29, false)), .ld (.t 34)⟩,
      ⟨some 36, (some (29, false)), .bin .gtr (.t 33) (.t 35)⟩,
      ⟨some 37, (some (23, true)), .pick (.t 29) (.k (.b true)) (.t 36)⟩,
      ⟨some 38, none, .pick (.t 23) (.t 37) (.k (.b false))⟩])
    (.cond (.t 38) (.ops [⟨some 39, none, .mv (.t 5)⟩,
      ⟨some 40, none, .mv (.t 6)⟩,
      ⟨some 41, none, .bsl ty_int [.i .i64 0] 1 [(0, 1, .t 40)]⟩,
      ⟨some 42, none, .app ty_int 1 8 (.t 39) (.t 41)⟩,
      ⟨some 5, none, .mv (.t 42)⟩])
    (.skip)))))
    (.ops [⟨some 43, none, .bin .add (.t 15) (.k (.i .i64 1))⟩,
      ⟨some 15, none, .mv (.t 43)⟩])))
def c_impl_missed : LC := .seq (.ops [⟨some 4, none, .mv (.k (.sn))⟩])
    (.seq (.seq (.ops [⟨some 8, none, .mv (.t 1)⟩,
      ⟨some 9, none, .len (.t 8)⟩,
      ⟨some 10, none, .mv (.t 0)⟩,
      ⟨some 11, none, .len (.t 10)⟩,
      ⟨some 12, none, .bin .neq (.t 9) (.t 11)⟩])
    (.cond (.t 12) (.seq (.ops [⟨some 4, none, .mv (.k (.sn))⟩])
    (.ret))
    (.skip)))
    (.seq (.ops [⟨some 5, none, .mv (.k (.sn))⟩])
    (.seq (.seq (.ops [⟨some 13, none, .mv (.t 0)⟩,
      ⟨some 14, none, .len (.t 13)⟩,
      ⟨some 15, none, .mv (.k (.i .i64 0))⟩])
    (.block 0 (.loop l0_impl_missed)))
    (.seq (.ops [⟨some 44, none, .mv (.t 5)⟩,
      ⟨some 45, none, .call (.k (.fn n_slices_Clip_int [] [])) [.t 44]⟩,
      ⟨some 4, none, .mv (.t 45)⟩])
    (.ret)))))
theorem k_impl_missed : chkF Try.prog Try.f55 46 c_impl_missed [.t 4] = true := by kernel_rfl
theorem call_impl_missed {args : List AV} {σ : List AB} {K : AV → List AB → Prop} (hn : args.length ≤ 46) (hw : wpC Try.prog σ.length 46 c_impl_missed (retP σ.length [.t 4] K) ⟨initT 0 args, σ⟩) : CallWp Try.prog n_impl_missed args σ K := call_fn mixed Try.func55 k_impl_missed hn hw
theorem callC_impl_missed {args : List AV} {σ : List AB} {K : AV → List AB → Prop} (hn : args.length ≤ 46) (hw : Closed σ → args.all (below1 σ.length) = true → wpC Try.prog σ.length 46 c_impl_missed (retP σ.length [.t 4] K) ⟨initT 0 args, σ⟩) : CallWp Try.prog n_impl_missed args σ K := call_fnC mixed Try.func55 k_impl_missed hn hw

-- loop.example/deadlinescheduler/impl.edf
def c_impl_edf : LC := .seq (.ops [⟨some 2, none, .mv (.k (.i .i64 0))⟩])
    (.seq (.ops [⟨some 3, none, .mv (.t 0)⟩,
      ⟨some 4, none, .mv (.t 0)⟩,
      ⟨some 5, none, .mkf n_impl_machine_deadline [.t 4] []⟩,
      ⟨some 6, none, .mv (.t 0)⟩,
      ⟨some 7, none, .mkf n_impl_machine_any [.t 6] []⟩,
      ⟨some 8, none, .call (.k (.fn n_impl_machine_best [] [])) [.t 3, .t 5, .t 7]⟩,
      ⟨some 2, none, .mv (.t 8)⟩])
    (.ret))
theorem k_impl_edf : chkF Try.prog Try.f56 9 c_impl_edf [.t 2] = true := by kernel_rfl
theorem call_impl_edf {args : List AV} {σ : List AB} {K : AV → List AB → Prop} (hn : args.length ≤ 9) (hw : wpC Try.prog σ.length 9 c_impl_edf (retP σ.length [.t 2] K) ⟨initT 0 args, σ⟩) : CallWp Try.prog n_impl_edf args σ K := call_fn mixed Try.func56 k_impl_edf hn hw
theorem callC_impl_edf {args : List AV} {σ : List AB} {K : AV → List AB → Prop} (hn : args.length ≤ 9) (hw : Closed σ → args.all (below1 σ.length) = true → wpC Try.prog σ.length 9 c_impl_edf (retP σ.length [.t 2] K) ⟨initT 0 args, σ⟩) : CallWp Try.prog n_impl_edf args σ K := call_fnC mixed Try.func56 k_impl_edf hn hw

-- slices.Contains[[]int,int]
def c_slices_Contains_int : LC := .seq (.ops [⟨some 4, none, .mv (.k (.b false))⟩])
    (.seq (.ops [⟨some 5, none, .mv (.t 0)⟩,
      ⟨some 6, none, .mv (.t 1)⟩,
      ⟨some 7, none, .call (.k (.fn n_slices_Index_int [] [])) [.t 5, .t 6]⟩,
      ⟨some 8, none, .bin .geq (.t 7) (.k (.i .i64 0))⟩,
      ⟨some 4, none, .mv (.t 8)⟩])
    (.ret))
theorem k_slices_Contains_int : chkF Try.prog Try.f57 9 c_slices_Contains_int [.t 4] = true := by kernel_rfl
theorem call_slices_Contains_int {args : List AV} {σ : List AB} {K : AV → List AB → Prop} (hn : args.length ≤ 9) (hw : wpC Try.prog σ.length 9 c_slices_Contains_int (retP σ.length [.t 4] K) ⟨initT 0 args, σ⟩) : CallWp Try.prog n_slices_Contains_int args σ K := call_fn mixed Try.func57 k_slices_Contains_int hn hw
theorem callC_slices_Contains_int {args : List AV} {σ : List AB} {K : AV → List AB → Prop} (hn : args.length ≤ 9) (hw : Closed σ → args.all (below1 σ.length) = true → wpC Try.prog σ.length 9 c_slices_Contains_int (retP σ.length [.t 4] K) ⟨initT 0 args, σ⟩) : CallWp Try.prog n_slices_Contains_int args σ K := call_fnC mixed Try.func57 k_slices_Contains_int hn hw

-- loop.example/deadlinescheduler/impl.responses
-- l0_impl_responses: live at the head: 0 1 2 7 13 14 15
def l0_impl_responses : LC := .seq (.ops [⟨some 16, none, .bin .lss (.t 15) (.t 14)⟩])
    (.seq (.cond (.t 16) (.skip)
    (.exit 0))
    (.seq (.block 1 (.seq (.ops [⟨some 17, none, .mv (.t 15)⟩,
      ⟨some 18, none, .ia 1 (.t 13) (.t 15)⟩,
      ⟨some 19, none, .ld (.t 18)⟩,
      ⟨some 8, none, .mv (.t 17)⟩,
      ⟨some 9, none, .mv (.t 19)⟩])
    (.ops [⟨some 20, none, .mv (.t 7)⟩,
      ⟨some 21, none, .mv (.t 9)⟩,
      ⟨some 22, none, .mv (.t 0)⟩,
      ⟨some 23, none, .mv (.t 1)⟩,
      ⟨some 24, none, .mv (.t 9)⟩,
      ⟨some 25, none, .mv (.t 2)⟩,
      ⟨some 26, none, .mv (.t 8)⟩,
      ⟨some 27, none, .slc 1 (.t 25) none (some (.t 26)) none⟩,
      ⟨some 28, none, .call (.k (.fn n_impl_response [] [])) [.t 22, .t 23, .t 24, .t 27]⟩,
      ⟨some 29, none, .ia 1 (.t 20) (.t 21)⟩,
      ⟨none, none, .st 1 (.t 29) (.t 28)⟩])))
    (.ops [⟨some 30, none, .bin .add (.t 15) (.k (.i .i64 1))⟩,
      ⟨some 15, none, .mv (.t 30)⟩])))
def c_impl_responses : LC := .seq (.ops [⟨some 6, none, .mv (.k (.sn))⟩])
    (.seq (.ops [⟨some 10, none, .mv (.t 0)⟩,
      ⟨some 11, none, .len (.t 10)⟩,
      ⟨some 12, none, .msl ty_int 8 [.i .i64 0] (.t 11)⟩,
      ⟨some 7, none, .mv (.t 12)⟩])
    (.seq (.seq (.ops [⟨some 13, none, .mv (.t 2)⟩,
      ⟨some 14, none, .len (.t 13)⟩,
      ⟨some 15, none, .mv (.k (.i .i64 0))⟩])
    (.block 0 (.loop l0_impl_responses)))
    (.seq (.ops [⟨some 31, none, .mv (.t 7)⟩,
      ⟨some 6, none, .mv (.t 31)⟩])
    (.ret))))
theorem k_impl_responses : chkF Try.prog Try.f58 32 c_impl_responses [.t 6] = true := by kernel_rfl
theorem call_impl_responses {args : List AV} {σ : List AB} {K : AV → List AB → Prop} (hn : args.length ≤ 32) (hw : wpC Try.prog σ.length 32 c_impl_responses (retP σ.length [.t 6] K) ⟨initT 0 args, σ⟩) : CallWp Try.prog n_impl_responses args σ K := call_fn mixed Try.func58 k_impl_responses hn hw
theorem callC_impl_responses {args : List AV} {σ : List AB} {K : AV → List AB → Prop} (hn : args.length ≤ 32) (hw : Closed σ → args.all (below1 σ.length) = true → wpC Try.prog σ.length 32 c_impl_responses (retP σ.length [.t 6] K) ⟨initT 0 args, σ⟩) : CallWp Try.prog n_impl_responses args σ K := call_fnC mixed Try.func58 k_impl_responses hn hw

-- loop.example/deadlinescheduler/impl.SetValid
def c_impl_SetValid : LC := .seq (.ops [⟨some 2, none, .mv (.k (.b false))⟩])
    (.seq (.ops [⟨some 3, none, .mv (.t 0)⟩,
      ⟨some 4, none, .len (.t 3)⟩,
      ⟨some 5, none, .bin .leq (.t 4) (.k (.i .i64 5))⟩,
      ⟨some 6, none, .mv (.t 5)⟩,
      ⟨some 7, (some (6, true)), .mv (.t 0)⟩,
      ⟨some 8, (some (6, true)), .call (.k (.fn n_slices_ContainsFunc_impl_Task [] [])) [.t 7, .k (.fn n_impl_SetValid_1 [] [])]⟩,
      ⟨some 9, (some (6, true)), .not (.t 8)⟩,
      ⟨some 10, none, .pick (.t 6) (.t 9) (.k (.b false))⟩,
      ⟨some 2, none, .mv (.t 10)⟩])
    (.ret))
theorem k_impl_SetValid : chkF Try.prog Try.f59 11 c_impl_SetValid [.t 2] = true := by kernel_rfl
theorem call_impl_SetValid {args : List AV} {σ : List AB} {K : AV → List AB → Prop} (hn : args.length ≤ 11) (hw : wpC Try.prog σ.length 11 c_impl_SetValid (retP σ.length [.t 2] K) ⟨initT 0 args, σ⟩) : CallWp Try.prog n_impl_SetValid args σ K := call_fn mixed Try.func59 k_impl_SetValid hn hw
theorem callC_impl_SetValid {args : List AV} {σ : List AB} {K : AV → List AB → Prop} (hn : args.length ≤ 11) (hw : Closed σ → args.all (below1 σ.length) = true → wpC Try.prog σ.length 11 c_impl_SetValid (retP σ.length [.t 2] K) ⟨initT 0 args, σ⟩) : CallWp Try.prog n_impl_SetValid args σ K := call_fnC mixed Try.func59 k_impl_SetValid hn hw

end Go.Proofs.Ytgnlibnnpipbhaa
