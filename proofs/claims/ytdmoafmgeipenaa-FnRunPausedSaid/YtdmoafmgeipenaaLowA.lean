/- Lowered code of Go functions, printed by a program of this session (lower.py), and that it is the loaded code: checked by the kernel. -/
import Derived.Test.YtdmoafmgeipenaaProg
import Derived.Test.YtdmoafmgeipenaaAbsY
import Derived.KernelRfl
namespace Go.Proofs.Ytdmoafmgeipenaa
open Go.Abs
set_option maxRecDepth 100000

theorem mixed : Try.prog.follows .mixedOrders = true := by kernel_rfl
abbrev n_laws_FnJitterSafe : Nat := 3
abbrev n_laws_FnJitterMore : Nat := 4
abbrev n_laws_FnExactRunJitter : Nat := 5
abbrev n_laws_FnExactSlack : Nat := 6
abbrev n_laws_FnRunPaused : Nat := 7
abbrev n_laws_FnSlack : Nat := 8
abbrev n_laws_FnExactRunPaused : Nat := 9
abbrev n_laws_FnStealSlack : Nat := 10
abbrev n_laws_FnRunEdfChoice : Nat := 11
abbrev n_laws_FnRunEdfPast : Nat := 12
abbrev n_laws_FnRunEdf : Nat := 13
abbrev n_laws_FnEdfSafe : Nat := 14
abbrev n_spec_DrawRunJitter : Nat := 15
abbrev n_impl_RunJitter : Nat := 16
abbrev n_laws_sameSchedule : Nat := 17
abbrev n_spec_RunJitter : Nat := 18
abbrev n_laws_alive : Nat := 19
abbrev n_impl_JitterResponse : Nat := 20
abbrev n_impl_Missed : Nat := 21
abbrev n_spec_DrawJitterResponse : Nat := 22
abbrev n_laws_sameInts : Nat := 23
abbrev n_spec_JitterResponse : Nat := 24
abbrev n_impl_Synchronous : Nat := 25
abbrev n_impl_RunFixed : Nat := 26
abbrev n_laws_szTaskS : Nat := 27
abbrev n_laws_szJobS : Nat := 28
abbrev n_laws_toTaskS : Nat := 29
abbrev n_laws_toIntS : Nat := 30
abbrev n_laws_toJobS : Nat := 31
abbrev n_laws_eqSchedule : Nat := 32
abbrev n_laws_eqTaskS : Nat := 33
abbrev n_laws_eqIntS : Nat := 34
abbrev n_laws_eqJobS : Nat := 35
abbrev n_laws_markTaskS : Nat := 36
abbrev n_laws_markIntS : Nat := 37
abbrev n_laws_markJobS : Nat := 38
abbrev n_laws_markSchedule : Nat := 39
abbrev n_laws_heldSchedule : Nat := 40
abbrev n_spec_Slack : Nat := 41
abbrev n_impl_Slack : Nat := 42
abbrev n_spec_DrawRunPaused : Nat := 43
abbrev n_impl_RunPaused : Nat := 44
abbrev n_spec_RunPaused : Nat := 45
abbrev n_impl_RunEdf : Nat := 46
abbrev n_spec_DrawSlack : Nat := 47
abbrev n_spec_JobsLegal : Nat := 48
abbrev n_spec_DrawStealSlack : Nat := 49
abbrev n_impl_StealSlack : Nat := 50
abbrev n_spec_StealSlack : Nat := 51
abbrev n_spec_ArrivalsLegal : Nat := 52
abbrev n_spec_DrawRunEdf : Nat := 53
abbrev n_spec_RunEdf : Nat := 54
abbrev n_laws_ticks : Nat := 55
abbrev n_impl_EdfFeasible : Nat := 56
abbrev n_spec_l20Open : Nat := 57
abbrev n_spec_l20Set : Nat := 58
abbrev n_spec_l20Jitter : Nat := 59
abbrev n_spec_l20Order : Nat := 60
abbrev n_spec_SetValid : Nat := 61
abbrev n_spec_l20Late : Nat := 62
abbrev n_impl_JitterLegal : Nat := 63
abbrev n_impl_OrderValid : Nat := 64
abbrev n_impl_simulate : Nat := 65
abbrev n_impl_fixed : Nat := 66
abbrev n_spec_OrderValid : Nat := 67
abbrev n_spec_JitterLegal : Nat := 68
abbrev n_spec_l4Index : Nat := 69
abbrev n_spec_l3Run : Nat := 70
abbrev n_impl_TaskValid : Nat := 71
abbrev n_impl_JitterValid : Nat := 72
abbrev n_impl_responses : Nat := 73
abbrev n_impl_missed : Nat := 74
abbrev n_spec_JitterValid : Nat := 75
abbrev n_spec_l16Response : Nat := 76
abbrev n_impl_SetValid : Nat := 77
abbrev n_impl_in : Nat := 78
abbrev n_slices_Clip_impl_Job : Nat := 79
abbrev n_impl_JobsLegal : Nat := 80
abbrev n_laws_toTask : Nat := 81
abbrev n_laws_toJob : Nat := 82
abbrev n_laws_eqTask : Nat := 83
abbrev n_laws_eqJob : Nat := 84
abbrev n_laws_heldIntS : Nat := 85
abbrev n_spec_l1In : Nat := 86
abbrev n_spec_l3Missed : Nat := 87
abbrev n_spec_l17Run : Nat := 88
abbrev n_impl_pause : Nat := 89
abbrev n_spec_l20Rd_pick : Nat := 90
abbrev n_impl_edf : Nat := 91
abbrev n_impl_ArrivalsLegal : Nat := 92
abbrev n_impl_paused : Nat := 93
abbrev n_impl_StealSlack_1 : Nat := 94
abbrev n_slices_Contains_int : Nat := 95
abbrev n_slices_Clip_int : Nat := 96
abbrev n_spec_l17Fits : Nat := 97
abbrev n_spec_l20Jobs : Nat := 98
abbrev n_spec_l3Deadlines : Nat := 99
abbrev n_impl_feasible : Nat := 100
abbrev n_spec_l20Task : Nat := 101
abbrev n_spec_l20Rd_odd : Nat := 102
abbrev n_spec_TaskValid : Nat := 103
abbrev n_impl_ordered : Nat := 104
abbrev n_impl_JitterLegal_1 : Nat := 105
abbrev n_impl_arrival : Nat := 106
abbrev n_impl_spaced : Nat := 107
abbrev n_impl_JitterLegal_2 : Nat := 108
abbrev n_impl_JitterLegal_3 : Nat := 109
abbrev n_slices_Index_int : Nat := 110
abbrev n_impl_newMachine : Nat := 111
abbrev n_impl_none : Nat := 112
abbrev n_impl_fixed_1 : Nat := 113
abbrev n_impl_machine_best : Nat := 114
abbrev n_impl_fixed_1_1 : Nat := 115
abbrev n_impl_machine_any : Nat := 116
abbrev n_spec_l3Best : Nat := 117
abbrev n_impl_response : Nat := 118
abbrev n_slices_ContainsFunc_impl_Task : Nat := 119
abbrev n_impl_SetValid_1 : Nat := 120
abbrev n_impl_JobsLegal_1 : Nat := 121
abbrev n_impl_release : Nat := 122
abbrev n_impl_JobsLegal_2 : Nat := 123
abbrev n_slices_ContainsFunc_impl_Job : Nat := 124
abbrev n_impl_JobsLegal_3 : Nat := 125
abbrev n_impl_pause_1 : Nat := 126
abbrev n_impl_machine_deadline : Nat := 127
abbrev n_impl_paused_1 : Nat := 128
abbrev n_impl_FirstOverload : Nat := 129
abbrev n_slices_Repeat_int : Nat := 130
abbrev n_impl_machine_ready : Nat := 131
abbrev n_impl_ceil : Nat := 132
abbrev n_slices_IndexFunc_impl_Task : Nat := 133
abbrev n_slices_IndexFunc_impl_Job : Nat := 134
abbrev n_impl_hyper : Nat := 135
abbrev n_impl_demand : Nat := 136
abbrev n_math_bits_Mul : Nat := 137
abbrev n_impl_lcm : Nat := 138
abbrev n_math_bits_Mul32 : Nat := 139
abbrev n_math_bits_Mul64 : Nat := 140
abbrev n_impl_gcd : Nat := 141
abbrev ty_int : Nat := 3
abbrev ty_bool : Nat := 4
abbrev ty_uint8 : Nat := 5
abbrev ty_string : Nat := 9
abbrev ty_ptr_runtime_TypeAssertionError : Nat := 15
abbrev ty_ptr_runtime_PanicNilError : Nat := 16
abbrev ty_ptr_abi_Type : Nat := 17
abbrev ty_sl_uint8 : Nat := 22
abbrev ty_sl_impl_Task : Nat := 23
abbrev ty_sl_int : Nat := 24
abbrev ty_sl_impl_Job : Nat := 25
abbrev ty_impl_Schedule : Nat := 29
abbrev ty_impl_Task : Nat := 35
abbrev ty_impl_Job : Nat := 37
abbrev ty_sl_laws_Task : Nat := 45
abbrev ty_sl_laws_Job : Nat := 46
abbrev ty_impl_Arrival : Nat := 70
abbrev ty_sl_impl_Arrival : Nat := 75
abbrev ty_ptr_spec_l20Rd : Nat := 79
abbrev ty_laws_Task : Nat := 97
abbrev ty_laws_Job : Nat := 99
abbrev ty_spec_l20Rd : Nat := 104
abbrev ty_t108 : Nat := 108
abbrev ty_ptr_impl_machine : Nat := 117
abbrev ty_impl_machine : Nat := 121
abbrev ty_ptr_uint8 : Nat := 154

-- loop.example/deadlinescheduler/laws.FnJitterSafe
-- region 5: a plan with 1 orders
-- region 19 draws, 31 of 31 first
-- l1_laws_FnJitterSafe: live at the head: 3 6 7 8 9 76 77 78 79 80 81 82 83 84 85 86 87 88 89 90 91 92 93 94 95 96 97 98
-- l0_laws_FnJitterSafe: live at the head: 3 6 7 8 10 76 77 78 79 80 81 82 83 84 85 86 87 88 89 90 91 92 93 94 95 96 97 98
def l0_laws_FnJitterSafe : LC := .seq (.seq (.ops [⟨some 55, none, .mv (.t 10)⟩,
      ⟨some 56, none, .mv (.t 6)⟩,
      ⟨some 57, none, .len (.t 56)⟩,
      ⟨some 58, none, .bin .lss (.t 55) (.t 57)⟩])
    (.cond (.t 58) (.skip)
    (.exit 2)))
    (.seq (.block 3 (.seq (.ops [⟨some 61, none, .mv (.t 3)⟩,
      ⟨some 62, none, .mv (.t 6)⟩,
      ⟨some 63, none, .mv (.t 10)⟩,
      ⟨some 64, none, .ia 4 (.t 62) (.t 63)⟩,
      ⟨some 65, none, .fa 0 (.t 64)⟩,
      ⟨some 66, none, .ld (.t 65)⟩,
      ⟨some 67, none, .ia 3 (.t 61) (.t 66)⟩,
      ⟨some 68, none, .ldn 3 (.t 67)⟩,
      ⟨some 11, none, .alloc ty_impl_Task [.i .i64 0, .i .i64 0, .i .i64 0]⟩,
      ⟨none, none, .st 3 (.t 11) (.t 68)⟩])
    (.seq (.draw 31 [⟨some 69, none, .fa 1 (.t 7)⟩,
      ⟨some 70, none, .ld (.t 69)⟩,
      ⟨some 71, none, .mv (.t 10)⟩,
      ⟨some 72, none, .ia 1 (.t 70) (.t 71)⟩,
      ⟨some 73, none, .ld (.t 72)⟩,
      ⟨some 74, none, .bin .geq (.t 73) (.k (.i .i64 0))⟩,
      ⟨some 75, none, .mv (.t 74)⟩,
      ⟨some 76, (some (75, true)), .fa 1 (.t 7)⟩,
      ⟨some 77, (some (75, true)), .ld (.t 76)⟩,
      ⟨some 78, (some (75, true)), .mv (.t 10)⟩,
      ⟨some 79, (some (75, true)), .ia 1 (.t 77) (.t 78)⟩,
      ⟨some 80, (some (75, true)), .ld (.t 79)⟩,
      ⟨some 81, (some (75, true)), .mv (.t 6)⟩,
      ⟨some 82, (some (75, true)), .mv (.t 10)⟩,
      ⟨some 83, (some (75, true)), .ia 4 (.t 81) (.t 82)⟩,
      ⟨some 84, (some (75, true)), .fa 2 (.t 83)⟩,
      ⟨some 85, (some (75, true)), .ld (.t 84)⟩,
      ⟨some 86, (some (75, true)), .fa 1 (.t 11)⟩,
      ⟨some 87, (some (75, true)), .ld (.t 86)⟩,
      ⟨some 88, (some (75, true)), .bin .sub (.t 85) (.t 87)⟩,
      ⟨some 89, (some (75, true)), .bin .sub (.t 80) (.t 88)⟩,
      ⟨some 90, (some (75, true)), .mv (.t 8)⟩,
      ⟨some 91, (some (75, true)), .mv (.t 6)⟩,
      ⟨some 92, (some (75, true)), .mv (.t 10)⟩,
      ⟨some 93, (some (75, true)), .ia 4 (.t 91) (.t 92)⟩,
      ⟨some 94, (some (75, true)), .fa 0 (.t 93)⟩,
      ⟨some 95, (some (75, true)), .ld (.t 94)⟩,
      ⟨some 96, (some (75, true)), .ia 1 (.t 90) (.t 95)⟩,
      ⟨some 97, (some (75, true)), .ld (.t 96)⟩,
      ⟨some 98, (some (75, true)), .bin .gtr (.t 89) (.t 97)⟩,
      ⟨some 99, none, .pick (.t 75) (.t 98) (.k (.b false))⟩])
    (.cond (.t 99) (.seq (.ops [⟨some 2, none, .mv (.k (.b false))⟩])
    (.ret))
    (.skip)))))
    (.ops [⟨some 59, none, .mv (.t 10)⟩,
      ⟨some 60, none, .bin .add (.t 59) (.k (.i .i64 1))⟩,
      ⟨some 10, none, .mv (.t 60)⟩]))
def l1_laws_FnJitterSafe : LC := .seq (.seq (.ops [⟨some 44, none, .mv (.t 9)⟩,
      ⟨some 45, none, .mv (.t 8)⟩,
      ⟨some 46, none, .len (.t 45)⟩,
      ⟨some 47, none, .bin .lss (.t 44) (.t 46)⟩])
    (.cond (.t 47) (.skip)
    (.exit 0)))
    (.seq (.block 1 (.seq (.ops [⟨some 50, none, .mv (.t 8)⟩,
      ⟨some 51, none, .mv (.t 9)⟩,
      ⟨some 52, none, .ia 1 (.t 50) (.t 51)⟩,
      ⟨some 53, none, .ld (.t 52)⟩,
      ⟨some 54, none, .bin .lss (.t 53) (.k (.i .i64 0))⟩])
    (.cond (.t 54) (.seq (.ops [⟨some 2, none, .mv (.k (.b true))⟩])
    (.ret))
    (.skip))))
    (.ops [⟨some 48, none, .mv (.t 9)⟩,
      ⟨some 49, none, .bin .add (.t 48) (.k (.i .i64 1))⟩,
      ⟨some 9, none, .mv (.t 49)⟩]))
def c_laws_FnJitterSafe : LC := .seq (.ops [⟨some 2, none, .mv (.k (.b false))⟩])
    (.seq (.seq (.ops [⟨some 12, none, .mv (.t 0)⟩,
      ⟨some 13, none, .len (.t 12)⟩,
      ⟨some 14, none, .bin .gtr (.t 13) (.k (.i .i64 1048576))⟩])
    (.cond (.t 14) (.seq (.ops [⟨some 2, none, .mv (.k (.b true))⟩])
    (.ret))
    (.skip)))
    (.seq (.ops [⟨some 16, none, .mv (.t 0)⟩,
      ⟨some 17, none, .call (.k (.fn n_spec_DrawRunJitter [] [])) [.t 16]⟩,
      ⟨some 15, none, .mv (.t 17)⟩,
      ⟨some 18, none, .ext 0 (.t 15)⟩,
      ⟨some 19, none, .ext 1 (.t 15)⟩,
      ⟨some 20, none, .ext 2 (.t 15)⟩,
      ⟨some 21, none, .ext 3 (.t 15)⟩,
      ⟨some 3, none, .mv (.t 18)⟩,
      ⟨some 4, none, .mv (.t 19)⟩,
      ⟨some 5, none, .mv (.t 20)⟩,
      ⟨some 6, none, .mv (.t 21)⟩])
    (.seq (.ops [⟨some 22, none, .mv (.t 3)⟩,
      ⟨some 23, none, .mv (.t 4)⟩,
      ⟨some 24, none, .mv (.t 5)⟩,
      ⟨some 25, none, .mv (.t 6)⟩,
      ⟨some 26, none, .call (.k (.fn n_impl_RunJitter [] [])) [.t 22, .t 23, .t 24, .t 25]⟩,
      ⟨some 7, none, .alloc ty_impl_Schedule [.sn, .sn]⟩,
      ⟨none, none, .st 2 (.t 7) (.t 26)⟩])
    (.seq (.seq (.plan [0, 1, 2, 3, 4] [⟨some 27, none, .ldn 2 (.t 7)⟩,
      ⟨some 28, none, .mv (.t 3)⟩,
      ⟨some 29, none, .mv (.t 4)⟩,
      ⟨some 30, none, .mv (.t 5)⟩,
      ⟨some 31, none, .mv (.t 6)⟩]
      (.one 5 ⟨some 32, none, .call (.k (.fn n_spec_RunJitter [] [])) [.t 28, .t 29, .t 30, .t 31]⟩ [(27, some 2, 7)] []
        []
      (.one 6 ⟨some 33, none, .call (.k (.fn n_laws_sameSchedule [] [])) [.t 27, .t 32]⟩ [] [7]
        [⟨some 34, none, .not (.t 33)⟩]
      .fin)))
    (.cond (.t 34) (.seq (.ops [⟨some 2, none, .mv (.k (.b false))⟩])
    (.ret))
    (.skip)))
    (.seq (.seq (.ops [⟨some 35, none, .fa 0 (.t 7)⟩,
      ⟨some 36, none, .ld (.t 35)⟩,
      ⟨some 37, none, .len (.t 36)⟩,
      ⟨some 38, none, .bin .neq (.t 37) (.k (.i .i64 120))⟩])
    (.cond (.t 38) (.seq (.ops [⟨some 39, none, .call (.k (.fn n_laws_alive [] [])) []⟩,
      ⟨some 2, none, .mv (.t 39)⟩])
    (.ret))
    (.skip)))
    (.seq (.ops [⟨some 40, none, .mv (.t 3)⟩,
      ⟨some 41, none, .mv (.t 4)⟩,
      ⟨some 42, none, .mv (.t 5)⟩,
      ⟨some 43, none, .call (.k (.fn n_impl_JitterResponse [] [])) [.t 40, .t 41, .t 42]⟩,
      ⟨some 8, none, .mv (.t 43)⟩])
    (.seq (.seq (.ops [⟨some 9, none, .mv (.k (.i .i64 0))⟩])
    (.block 0 (.loop l1_laws_FnJitterSafe)))
    (.seq (.seq (.ops [⟨some 10, none, .mv (.k (.i .i64 0))⟩])
    (.block 2 (.loop l0_laws_FnJitterSafe)))
    (.seq (.ops [⟨some 100, none, .mv (.t 6)⟩,
      ⟨some 101, none, .ldn 2 (.t 7)⟩,
      ⟨some 102, none, .call (.k (.fn n_impl_Missed [] [])) [.t 100, .t 101]⟩,
      ⟨some 103, none, .len (.t 102)⟩,
      ⟨some 104, none, .bin .eql (.t 103) (.k (.i .i64 0))⟩,
      ⟨some 2, none, .mv (.t 104)⟩])
    (.ret))))))))))
theorem k_laws_FnJitterSafe : chkF Try.prog Try.f3 105 c_laws_FnJitterSafe [.t 2] = true := by kernel_rfl
theorem call_laws_FnJitterSafe {args : List AV} {σ : List AB} {K : AV → List AB → Prop} (hn : args.length ≤ 105) (hw : wpC Try.prog σ.length 105 c_laws_FnJitterSafe (retP σ.length [.t 2] K) ⟨initT 0 args, σ⟩) : CallWp Try.prog n_laws_FnJitterSafe args σ K := call_fn mixed Try.func3 k_laws_FnJitterSafe hn hw

-- loop.example/deadlinescheduler/laws.FnJitterMore
-- region 16 draws, 23 of 23 first
-- l0_laws_FnJitterMore: live at the head: 3 5 6 9 10 68 69 70 71 72 73 74 75 76 77 78 79 80 81 82 83
def l0_laws_FnJitterMore : LC := .seq (.seq (.ops [⟨some 56, none, .mv (.t 10)⟩,
      ⟨some 57, none, .mv (.t 9)⟩,
      ⟨some 58, none, .len (.t 57)⟩,
      ⟨some 59, none, .bin .lss (.t 56) (.t 58)⟩])
    (.cond (.t 59) (.skip)
    (.exit 0)))
    (.seq (.block 1 (.seq (.draw 23 [⟨some 62, none, .mv (.t 9)⟩,
      ⟨some 63, none, .mv (.t 10)⟩,
      ⟨some 64, none, .ia 1 (.t 62) (.t 63)⟩,
      ⟨some 65, none, .ld (.t 64)⟩,
      ⟨some 66, none, .bin .geq (.t 65) (.k (.i .i64 0))⟩,
      ⟨some 67, none, .mv (.t 66)⟩,
      ⟨some 68, (some (67, true)), .mv (.t 6)⟩,
      ⟨some 69, (some (67, true)), .mv (.t 10)⟩,
      ⟨some 70, (some (67, true)), .ia 1 (.t 68) (.t 69)⟩,
      ⟨some 71, (some (67, true)), .ld (.t 70)⟩,
      ⟨some 72, (some (67, true)), .bin .lss (.t 71) (.k (.i .i64 0))⟩,
      ⟨some 73, (some (67, true)), .mv (.t 72)⟩,
      ⟨some 74, (some (73, false)), .mv (.t 6)⟩,
      ⟨some 75, (some (73, false)), .mv (.t 10)⟩,
      ⟨some 76, (some (73, false)), .ia 1 (.t 74) (.t 75)⟩,
      ⟨some 77, (some (73, false)), .ld (.t 76)⟩,
      ⟨some 78, (some (73, false)), .mv (.t 9)⟩,
      ⟨some 79, (some (73, false)), .mv (.t 10)⟩,
      ⟨some 80, (some (73, false)), .ia 1 (.t 78) (.t 79)⟩,
      ⟨some 81, (some (73, false)), .ld (.t 80)⟩,
      ⟨some 82, (some (73, false)), .bin .gtr (.t 77) (.t 81)⟩,
      ⟨some 83, (some (67, true)), .pick (.t 73) (.k (.b true)) (.t 82)⟩,
      ⟨some 84, none, .pick (.t 67) (.t 83) (.k (.b false))⟩])
    (.cond (.t 84) (.seq (.ops [⟨some 2, none, .mv (.k (.b false))⟩])
    (.ret))
    (.skip))))
    (.ops [⟨some 60, none, .mv (.t 10)⟩,
      ⟨some 61, none, .bin .add (.t 60) (.k (.i .i64 1))⟩,
      ⟨some 10, none, .mv (.t 61)⟩]))
def c_laws_FnJitterMore : LC := .seq (.ops [⟨some 2, none, .mv (.k (.b false))⟩])
    (.seq (.seq (.ops [⟨some 12, none, .mv (.t 0)⟩,
      ⟨some 13, none, .len (.t 12)⟩,
      ⟨some 14, none, .bin .gtr (.t 13) (.k (.i .i64 1048576))⟩])
    (.cond (.t 14) (.seq (.ops [⟨some 2, none, .mv (.k (.b true))⟩])
    (.ret))
    (.skip)))
    (.seq (.ops [⟨some 16, none, .mv (.t 0)⟩,
      ⟨some 17, none, .call (.k (.fn n_spec_DrawJitterResponse [] [])) [.t 16]⟩,
      ⟨some 15, none, .mv (.t 17)⟩,
      ⟨some 18, none, .ext 0 (.t 15)⟩,
      ⟨some 19, none, .ext 1 (.t 15)⟩,
      ⟨some 20, none, .ext 2 (.t 15)⟩,
      ⟨some 3, none, .mv (.t 18)⟩,
      ⟨some 4, none, .mv (.t 19)⟩,
      ⟨some 5, none, .mv (.t 20)⟩])
    (.seq (.ops [⟨some 21, none, .mv (.t 3)⟩,
      ⟨some 22, none, .mv (.t 4)⟩,
      ⟨some 23, none, .mv (.t 5)⟩,
      ⟨some 24, none, .call (.k (.fn n_impl_JitterResponse [] [])) [.t 21, .t 22, .t 23]⟩,
      ⟨some 6, none, .mv (.t 24)⟩])
    (.seq (.seq (.ops [⟨some 25, none, .mv (.t 6)⟩,
      ⟨some 26, none, .mv (.t 3)⟩,
      ⟨some 27, none, .mv (.t 4)⟩,
      ⟨some 28, none, .mv (.t 5)⟩,
      ⟨some 29, none, .call (.k (.fn n_spec_JitterResponse [] [])) [.t 26, .t 27, .t 28]⟩,
      ⟨some 30, none, .call (.k (.fn n_laws_sameInts [] [])) [.t 25, .t 29]⟩,
      ⟨some 31, none, .not (.t 30)⟩])
    (.cond (.t 31) (.seq (.ops [⟨some 2, none, .mv (.k (.b false))⟩])
    (.ret))
    (.skip)))
    (.seq (.seq (.ops [⟨some 32, none, .mv (.t 6)⟩,
      ⟨some 33, none, .len (.t 32)⟩,
      ⟨some 34, none, .bin .eql (.t 33) (.k (.i .i64 0))⟩])
    (.cond (.t 34) (.seq (.ops [⟨some 35, none, .call (.k (.fn n_laws_alive [] [])) []⟩,
      ⟨some 2, none, .mv (.t 35)⟩])
    (.ret))
    (.skip)))
    (.seq (.ops [⟨some 36, none, .bsl ty_int [.i .i64 0] 0 []⟩,
      ⟨some 37, none, .mv (.t 4)⟩,
      ⟨some 38, none, .app ty_int 1 8 (.t 36) (.t 37)⟩,
      ⟨some 7, none, .mv (.t 38)⟩])
    (.seq (.ops [⟨some 39, none, .mv (.t 0)⟩,
      ⟨some 40, none, .len (.t 39)⟩,
      ⟨some 41, none, .mv (.t 3)⟩,
      ⟨some 42, none, .len (.t 41)⟩,
      ⟨some 43, none, .bin .rem (.t 40) (.t 42)⟩,
      ⟨some 8, none, .mv (.t 43)⟩])
    (.seq (.ops [⟨some 44, none, .mv (.t 7)⟩,
      ⟨some 45, none, .mv (.t 8)⟩,
      ⟨some 46, none, .mv (.t 7)⟩,
      ⟨some 47, none, .mv (.t 8)⟩,
      ⟨some 48, none, .ia 1 (.t 46) (.t 47)⟩,
      ⟨some 49, none, .ld (.t 48)⟩,
      ⟨some 50, none, .bin .add (.t 49) (.k (.i .i64 1))⟩,
      ⟨some 51, none, .ia 1 (.t 44) (.t 45)⟩,
      ⟨none, none, .st 1 (.t 51) (.t 50)⟩])
    (.seq (.ops [⟨some 52, none, .mv (.t 3)⟩,
      ⟨some 53, none, .mv (.t 7)⟩,
      ⟨some 54, none, .mv (.t 5)⟩,
      ⟨some 55, none, .call (.k (.fn n_impl_JitterResponse [] [])) [.t 52, .t 53, .t 54]⟩,
      ⟨some 9, none, .mv (.t 55)⟩])
    (.seq (.seq (.ops [⟨some 10, none, .mv (.k (.i .i64 0))⟩])
    (.block 0 (.loop l0_laws_FnJitterMore)))
    (.seq (.ops [⟨some 85, none, .mv (.t 3)⟩,
      ⟨some 86, none, .call (.k (.fn n_impl_Synchronous [] [])) [.t 85, .k (.i .i64 60)]⟩,
      ⟨some 11, none, .mv (.t 86)⟩])
    (.seq (.ops [⟨some 87, none, .mv (.t 3)⟩,
      ⟨some 88, none, .mv (.t 3)⟩,
      ⟨some 89, none, .len (.t 88)⟩,
      ⟨some 90, none, .msl ty_int 8 [.i .i64 0] (.t 89)⟩,
      ⟨some 91, none, .mv (.t 5)⟩,
      ⟨some 92, none, .mv (.t 11)⟩,
      ⟨some 93, none, .call (.k (.fn n_impl_RunJitter [] [])) [.t 87, .t 90, .t 91, .t 92]⟩,
      ⟨some 94, none, .mv (.t 3)⟩,
      ⟨some 95, none, .mv (.t 5)⟩,
      ⟨some 96, none, .mv (.t 11)⟩,
      ⟨some 97, none, .call (.k (.fn n_impl_RunFixed [] [])) [.t 94, .t 95, .t 96]⟩,
      ⟨some 98, none, .call (.k (.fn n_laws_sameSchedule [] [])) [.t 93, .t 97]⟩,
      ⟨some 2, none, .mv (.t 98)⟩])
    (.ret)))))))))))))
theorem k_laws_FnJitterMore : chkF Try.prog Try.f4 99 c_laws_FnJitterMore [.t 2] = true := by kernel_rfl
theorem call_laws_FnJitterMore {args : List AV} {σ : List AB} {K : AV → List AB → Prop} (hn : args.length ≤ 99) (hw : wpC Try.prog σ.length 99 c_laws_FnJitterMore (retP σ.length [.t 2] K) ⟨initT 0 args, σ⟩) : CallWp Try.prog n_laws_FnJitterMore args σ K := call_fn mixed Try.func4 k_laws_FnJitterMore hn hw

-- loop.example/deadlinescheduler/laws.FnExactRunJitter
def c_laws_FnExactRunJitter : LC := .seq (.ops [⟨some 8, none, .mv (.k (.b false))⟩])
    (.seq (.seq (.ops [⟨some 20, none, .mv (.t 1)⟩,
      ⟨some 21, none, .len (.t 20)⟩,
      ⟨some 22, none, .bin .gtr (.t 21) (.k (.i .i64 1048576))⟩])
    (.cond (.t 22) (.seq (.ops [⟨some 8, none, .mv (.k (.b true))⟩])
    (.ret))
    (.skip)))
    (.seq (.seq (.ops [⟨some 23, none, .mv (.t 2)⟩,
      ⟨some 24, none, .len (.t 23)⟩,
      ⟨some 25, none, .bin .gtr (.t 24) (.k (.i .i64 1048576))⟩])
    (.cond (.t 25) (.seq (.ops [⟨some 8, none, .mv (.k (.b true))⟩])
    (.ret))
    (.skip)))
    (.seq (.ops [⟨some 9, none, .mv (.k (.i .i64 1048576))⟩])
    (.seq (.ops [⟨some 26, none, .mv (.t 0)⟩,
      ⟨some 27, none, .mv (.t 9)⟩,
      ⟨some 28, none, .call (.k (.fn n_laws_szTaskS [] [])) [.t 26, .t 27]⟩,
      ⟨some 9, none, .mv (.t 28)⟩])
    (.seq (.seq (.ops [⟨some 29, none, .mv (.t 9)⟩,
      ⟨some 30, none, .bin .lss (.t 29) (.k (.i .i64 0))⟩])
    (.cond (.t 30) (.seq (.ops [⟨some 8, none, .mv (.k (.b true))⟩])
    (.ret))
    (.skip)))
    (.seq (.ops [⟨some 31, none, .mv (.t 3)⟩,
      ⟨some 32, none, .mv (.t 9)⟩,
      ⟨some 33, none, .call (.k (.fn n_laws_szJobS [] [])) [.t 31, .t 32]⟩,
      ⟨some 9, none, .mv (.t 33)⟩])
    (.seq (.seq (.ops [⟨some 34, none, .mv (.t 9)⟩,
      ⟨some 35, none, .bin .lss (.t 34) (.k (.i .i64 0))⟩])
    (.cond (.t 35) (.seq (.ops [⟨some 8, none, .mv (.k (.b true))⟩])
    (.ret))
    (.skip)))
    (.seq (.ops [⟨some 36, none, .mv (.t 0)⟩,
      ⟨some 37, none, .call (.k (.fn n_laws_toTaskS [] [])) [.t 36]⟩,
      ⟨some 38, none, .mv (.t 1)⟩,
      ⟨some 39, none, .call (.k (.fn n_laws_toIntS [] [])) [.t 38]⟩,
      ⟨some 40, none, .mv (.t 2)⟩,
      ⟨some 41, none, .call (.k (.fn n_laws_toIntS [] [])) [.t 40]⟩,
      ⟨some 42, none, .mv (.t 3)⟩,
      ⟨some 43, none, .call (.k (.fn n_laws_toJobS [] [])) [.t 42]⟩,
      ⟨some 44, none, .call (.k (.fn n_spec_RunJitter [] [])) [.t 37, .t 39, .t 41, .t 43]⟩,
      ⟨some 10, none, .alloc ty_impl_Schedule [.sn, .sn]⟩,
      ⟨none, none, .st 2 (.t 10) (.t 44)⟩])
    (.seq (.ops [⟨some 45, none, .mv (.t 0)⟩,
      ⟨some 46, none, .call (.k (.fn n_laws_toTaskS [] [])) [.t 45]⟩,
      ⟨some 11, none, .mv (.t 46)⟩])
    (.seq (.ops [⟨some 47, none, .mv (.t 1)⟩,
      ⟨some 48, none, .call (.k (.fn n_laws_toIntS [] [])) [.t 47]⟩,
      ⟨some 12, none, .mv (.t 48)⟩])
    (.seq (.ops [⟨some 49, none, .mv (.t 2)⟩,
      ⟨some 50, none, .call (.k (.fn n_laws_toIntS [] [])) [.t 49]⟩,
      ⟨some 13, none, .mv (.t 50)⟩])
    (.seq (.ops [⟨some 51, none, .mv (.t 3)⟩,
      ⟨some 52, none, .call (.k (.fn n_laws_toJobS [] [])) [.t 51]⟩,
      ⟨some 14, none, .mv (.t 52)⟩])
    (.seq (.ops [⟨some 53, none, .mv (.t 11)⟩,
      ⟨some 54, none, .mv (.t 12)⟩,
      ⟨some 55, none, .mv (.t 13)⟩,
      ⟨some 56, none, .mv (.t 14)⟩,
      ⟨some 57, none, .call (.k (.fn n_impl_RunJitter [] [])) [.t 53, .t 54, .t 55, .t 56]⟩,
      ⟨some 15, none, .alloc ty_impl_Schedule [.sn, .sn]⟩,
      ⟨none, none, .st 2 (.t 15) (.t 57)⟩])
    (.seq (.seq (.ops [⟨some 58, none, .ldn 2 (.t 15)⟩,
      ⟨some 59, none, .ldn 2 (.t 10)⟩,
      ⟨some 60, none, .call (.k (.fn n_laws_eqSchedule [] [])) [.t 58, .t 59]⟩,
      ⟨some 61, none, .not (.t 60)⟩])
    (.cond (.t 61) (.seq (.ops [⟨some 8, none, .mv (.k (.b false))⟩])
    (.ret))
    (.skip)))
    (.seq (.seq (.ops [⟨some 62, none, .mv (.t 11)⟩,
      ⟨some 63, none, .mv (.t 0)⟩,
      ⟨some 64, none, .call (.k (.fn n_laws_toTaskS [] [])) [.t 63]⟩,
      ⟨some 65, none, .call (.k (.fn n_laws_eqTaskS [] [])) [.t 62, .t 64]⟩,
      ⟨some 66, none, .not (.t 65)⟩])
    (.cond (.t 66) (.seq (.ops [⟨some 8, none, .mv (.k (.b false))⟩])
    (.ret))
    (.skip)))
    (.seq (.seq (.ops [⟨some 67, none, .mv (.t 12)⟩,
      ⟨some 68, none, .mv (.t 1)⟩,
      ⟨some 69, none, .call (.k (.fn n_laws_toIntS [] [])) [.t 68]⟩,
      ⟨some 70, none, .call (.k (.fn n_laws_eqIntS [] [])) [.t 67, .t 69]⟩,
      ⟨some 71, none, .not (.t 70)⟩])
    (.cond (.t 71) (.seq (.ops [⟨some 8, none, .mv (.k (.b false))⟩])
    (.ret))
    (.skip)))
    (.seq (.seq (.ops [⟨some 72, none, .mv (.t 13)⟩,
      ⟨some 73, none, .mv (.t 2)⟩,
      ⟨some 74, none, .call (.k (.fn n_laws_toIntS [] [])) [.t 73]⟩,
      ⟨some 75, none, .call (.k (.fn n_laws_eqIntS [] [])) [.t 72, .t 74]⟩,
      ⟨some 76, none, .not (.t 75)⟩])
    (.cond (.t 76) (.seq (.ops [⟨some 8, none, .mv (.k (.b false))⟩])
    (.ret))
    (.skip)))
    (.seq (.seq (.ops [⟨some 77, none, .mv (.t 14)⟩,
      ⟨some 78, none, .mv (.t 3)⟩,
      ⟨some 79, none, .call (.k (.fn n_laws_toJobS [] [])) [.t 78]⟩,
      ⟨some 80, none, .call (.k (.fn n_laws_eqJobS [] [])) [.t 77, .t 79]⟩,
      ⟨some 81, none, .not (.t 80)⟩])
    (.cond (.t 81) (.seq (.ops [⟨some 8, none, .mv (.k (.b false))⟩])
    (.ret))
    (.skip)))
    (.seq (.ops [⟨some 16, none, .mv (.k (.i .i64 1))⟩])
    (.seq (.ops [⟨some 82, none, .mv (.t 11)⟩,
      ⟨some 83, none, .mv (.t 16)⟩,
      ⟨some 84, none, .call (.k (.fn n_laws_markTaskS [] [])) [.t 82, .t 83]⟩,
      ⟨some 16, none, .mv (.t 84)⟩])
    (.seq (.ops [⟨some 85, none, .mv (.t 12)⟩,
      ⟨some 86, none, .mv (.t 16)⟩,
      ⟨some 87, none, .call (.k (.fn n_laws_markIntS [] [])) [.t 85, .t 86]⟩,
      ⟨some 16, none, .mv (.t 87)⟩])
    (.seq (.ops [⟨some 88, none, .mv (.t 13)⟩,
      ⟨some 89, none, .mv (.t 16)⟩,
      ⟨some 90, none, .call (.k (.fn n_laws_markIntS [] [])) [.t 88, .t 89]⟩,
      ⟨some 16, none, .mv (.t 90)⟩])
    (.seq (.ops [⟨some 91, none, .mv (.t 14)⟩,
      ⟨some 92, none, .mv (.t 16)⟩,
      ⟨some 93, none, .call (.k (.fn n_laws_markJobS [] [])) [.t 91, .t 92]⟩,
      ⟨some 16, none, .mv (.t 93)⟩])
    (.seq (.seq (.ops [⟨some 94, none, .mv (.t 16)⟩,
      ⟨some 95, none, .bin .lss (.t 94) (.k (.i .i64 0))⟩,
      ⟨some 96, none, .mv (.t 95)⟩,
      ⟨some 97, (some (96, false)), .ldn 2 (.t 15)⟩,
      ⟨some 98, (some (96, false)), .ldn 2 (.t 10)⟩,
      ⟨some 99, (some (96, false)), .call (.k (.fn n_laws_eqSchedule [] [])) [.t 97, .t 98]⟩,
      ⟨some 100, (some (96, false)), .not (.t 99)⟩,
      ⟨some 101, none, .pick (.t 96) (.k (.b true)) (.t 100)⟩])
    (.cond (.t 101) (.seq (.ops [⟨some 8, none, .mv (.k (.b false))⟩])
    (.ret))
    (.skip)))
    (.seq (.ops [⟨some 17, none, .mv (.k (.i .i64 1))⟩])
    (.seq (.ops [⟨some 102, none, .ldn 2 (.t 15)⟩,
      ⟨some 103, none, .mv (.t 17)⟩,
      ⟨some 104, none, .call (.k (.fn n_laws_markSchedule [] [])) [.t 102, .t 103]⟩,
      ⟨some 17, none, .mv (.t 104)⟩])
    (.seq (.ops [⟨some 18, none, .mv (.k (.i .i64 1))⟩])
    (.seq (.ops [⟨some 105, none, .ldn 2 (.t 15)⟩,
      ⟨some 106, none, .mv (.t 18)⟩,
      ⟨some 107, none, .call (.k (.fn n_laws_heldSchedule [] [])) [.t 105, .t 106]⟩,
      ⟨some 18, none, .mv (.t 107)⟩])
    (.seq (.seq (.ops [⟨some 108, none, .mv (.t 18)⟩,
      ⟨some 109, none, .bin .lss (.t 108) (.k (.i .i64 0))⟩])
    (.cond (.t 109) (.seq (.ops [⟨some 8, none, .mv (.k (.b false))⟩])
    (.ret))
    (.skip)))
    (.seq (.seq (.ops [⟨some 110, none, .mv (.t 18)⟩,
      ⟨some 111, none, .mv (.t 17)⟩,
      ⟨some 112, none, .bin .neq (.t 110) (.t 111)⟩])
    (.cond (.t 112) (.seq (.ops [⟨some 8, none, .mv (.k (.b false))⟩])
    (.ret))
    (.skip)))
    (.seq (.ops [⟨some 113, none, .mv (.t 0)⟩,
      ⟨some 114, none, .call (.k (.fn n_laws_toTaskS [] [])) [.t 113]⟩,
      ⟨some 115, none, .mv (.t 1)⟩,
      ⟨some 116, none, .call (.k (.fn n_laws_toIntS [] [])) [.t 115]⟩,
      ⟨some 117, none, .mv (.t 2)⟩,
      ⟨some 118, none, .call (.k (.fn n_laws_toIntS [] [])) [.t 117]⟩,
      ⟨some 119, none, .mv (.t 3)⟩,
      ⟨some 120, none, .call (.k (.fn n_laws_toJobS [] [])) [.t 119]⟩,
      ⟨some 121, none, .call (.k (.fn n_impl_RunJitter [] [])) [.t 114, .t 116, .t 118, .t 120]⟩,
      ⟨some 19, none, .alloc ty_impl_Schedule [.sn, .sn]⟩,
      ⟨none, none, .st 2 (.t 19) (.t 121)⟩])
    (.seq (.seq (.ops [⟨some 122, none, .ldn 2 (.t 19)⟩,
      ⟨some 123, none, .ldn 2 (.t 10)⟩,
      ⟨some 124, none, .call (.k (.fn n_laws_eqSchedule [] [])) [.t 122, .t 123]⟩,
      ⟨some 125, none, .not (.t 124)⟩])
    (.cond (.t 125) (.seq (.ops [⟨some 8, none, .mv (.k (.b false))⟩])
    (.ret))
    (.skip)))
    (.seq (.ops [⟨some 18, none, .mv (.k (.i .i64 1))⟩])
    (.seq (.ops [⟨some 126, none, .ldn 2 (.t 15)⟩,
      ⟨some 127, none, .mv (.t 18)⟩,
      ⟨some 128, none, .call (.k (.fn n_laws_heldSchedule [] [])) [.t 126, .t 127]⟩,
      ⟨some 18, none, .mv (.t 128)⟩])
    (.seq (.seq (.ops [⟨some 129, none, .mv (.t 18)⟩,
      ⟨some 130, none, .bin .lss (.t 129) (.k (.i .i64 0))⟩])
    (.cond (.t 130) (.seq (.ops [⟨some 8, none, .mv (.k (.b false))⟩])
    (.ret))
    (.skip)))
    (.seq (.seq (.ops [⟨some 131, none, .mv (.t 18)⟩,
      ⟨some 132, none, .mv (.t 17)⟩,
      ⟨some 133, none, .bin .neq (.t 131) (.t 132)⟩])
    (.cond (.t 133) (.seq (.ops [⟨some 8, none, .mv (.k (.b false))⟩])
    (.ret))
    (.skip)))
    (.seq (.ops [⟨some 8, none, .mv (.k (.b true))⟩])
    (.ret))))))))))))))))))))))))))))))))))))))
theorem k_laws_FnExactRunJitter : chkF Try.prog Try.f5 134 c_laws_FnExactRunJitter [.t 8] = true := by kernel_rfl
theorem call_laws_FnExactRunJitter {args : List AV} {σ : List AB} {K : AV → List AB → Prop} (hn : args.length ≤ 134) (hw : wpC Try.prog σ.length 134 c_laws_FnExactRunJitter (retP σ.length [.t 8] K) ⟨initT 0 args, σ⟩) : CallWp Try.prog n_laws_FnExactRunJitter args σ K := call_fn mixed Try.func5 k_laws_FnExactRunJitter hn hw

-- loop.example/deadlinescheduler/laws.FnExactSlack
def c_laws_FnExactSlack : LC := .seq (.ops [⟨some 6, none, .mv (.k (.b false))⟩])
    (.seq (.ops [⟨some 7, none, .mv (.k (.i .i64 1048576))⟩])
    (.seq (.ops [⟨some 12, none, .mv (.t 0)⟩,
      ⟨some 13, none, .mv (.t 7)⟩,
      ⟨some 14, none, .call (.k (.fn n_laws_szTaskS [] [])) [.t 12, .t 13]⟩,
      ⟨some 7, none, .mv (.t 14)⟩])
    (.seq (.seq (.ops [⟨some 15, none, .mv (.t 7)⟩,
      ⟨some 16, none, .bin .lss (.t 15) (.k (.i .i64 0))⟩])
    (.cond (.t 16) (.seq (.ops [⟨some 6, none, .mv (.k (.b true))⟩])
    (.ret))
    (.skip)))
    (.seq (.ops [⟨some 17, none, .mv (.t 1)⟩,
      ⟨some 18, none, .mv (.t 7)⟩,
      ⟨some 19, none, .call (.k (.fn n_laws_szJobS [] [])) [.t 17, .t 18]⟩,
      ⟨some 7, none, .mv (.t 19)⟩])
    (.seq (.seq (.ops [⟨some 20, none, .mv (.t 7)⟩,
      ⟨some 21, none, .bin .lss (.t 20) (.k (.i .i64 0))⟩])
    (.cond (.t 21) (.seq (.ops [⟨some 6, none, .mv (.k (.b true))⟩])
    (.ret))
    (.skip)))
    (.seq (.ops [⟨some 22, none, .mv (.t 0)⟩,
      ⟨some 23, none, .call (.k (.fn n_laws_toTaskS [] [])) [.t 22]⟩,
      ⟨some 24, none, .mv (.t 1)⟩,
      ⟨some 25, none, .call (.k (.fn n_laws_toJobS [] [])) [.t 24]⟩,
      ⟨some 26, none, .mv (.t 2)⟩,
      ⟨some 27, none, .call (.k (.fn n_spec_Slack [] [])) [.t 23, .t 25, .t 26]⟩,
      ⟨some 8, none, .mv (.t 27)⟩])
    (.seq (.ops [⟨some 28, none, .mv (.t 0)⟩,
      ⟨some 29, none, .call (.k (.fn n_laws_toTaskS [] [])) [.t 28]⟩,
      ⟨some 9, none, .mv (.t 29)⟩])
    (.seq (.ops [⟨some 30, none, .mv (.t 1)⟩,
      ⟨some 31, none, .call (.k (.fn n_laws_toJobS [] [])) [.t 30]⟩,
      ⟨some 10, none, .mv (.t 31)⟩])
    (.seq (.ops [⟨some 32, none, .mv (.t 9)⟩,
      ⟨some 33, none, .mv (.t 10)⟩,
      ⟨some 34, none, .mv (.t 2)⟩,
      ⟨some 35, none, .call (.k (.fn n_impl_Slack [] [])) [.t 32, .t 33, .t 34]⟩,
      ⟨some 11, none, .mv (.t 35)⟩])
    (.seq (.seq (.ops [⟨some 36, none, .mv (.t 11)⟩,
      ⟨some 37, none, .mv (.t 8)⟩,
      ⟨some 38, none, .bin .neq (.t 36) (.t 37)⟩])
    (.cond (.t 38) (.seq (.ops [⟨some 6, none, .mv (.k (.b false))⟩])
    (.ret))
    (.skip)))
    (.seq (.seq (.ops [⟨some 39, none, .mv (.t 9)⟩,
      ⟨some 40, none, .mv (.t 0)⟩,
      ⟨some 41, none, .call (.k (.fn n_laws_toTaskS [] [])) [.t 40]⟩,
      ⟨some 42, none, .call (.k (.fn n_laws_eqTaskS [] [])) [.t 39, .t 41]⟩,
      ⟨some 43, none, .not (.t 42)⟩])
    (.cond (.t 43) (.seq (.ops [⟨some 6, none, .mv (.k (.b false))⟩])
    (.ret))
    (.skip)))
    (.seq (.seq (.ops [⟨some 44, none, .mv (.t 10)⟩,
      ⟨some 45, none, .mv (.t 1)⟩,
      ⟨some 46, none, .call (.k (.fn n_laws_toJobS [] [])) [.t 45]⟩,
      ⟨some 47, none, .call (.k (.fn n_laws_eqJobS [] [])) [.t 44, .t 46]⟩,
      ⟨some 48, none, .not (.t 47)⟩])
    (.cond (.t 48) (.seq (.ops [⟨some 6, none, .mv (.k (.b false))⟩])
    (.ret))
    (.skip)))
    (.seq (.ops [⟨some 6, none, .mv (.k (.b true))⟩])
    (.ret))))))))))))))
theorem k_laws_FnExactSlack : chkF Try.prog Try.f6 49 c_laws_FnExactSlack [.t 6] = true := by kernel_rfl
theorem call_laws_FnExactSlack {args : List AV} {σ : List AB} {K : AV → List AB → Prop} (hn : args.length ≤ 49) (hw : wpC Try.prog σ.length 49 c_laws_FnExactSlack (retP σ.length [.t 6] K) ⟨initT 0 args, σ⟩) : CallWp Try.prog n_laws_FnExactSlack args σ K := call_fn mixed Try.func6 k_laws_FnExactSlack hn hw

-- loop.example/deadlinescheduler/laws.FnRunPaused
-- region 5: a plan with 1 orders
-- region 13 draws, 36 of 36 first
-- region 15: a plan with 1 orders
-- l0_laws_FnRunPaused: live at the head: 3 4 5 6 7 8 9 59 60 61 62 63 64 65 66 67 68 69 72 73 74 75 76 77 78 79 80 81 82 83 84 85 86 87 88 89
def l0_laws_FnRunPaused : LC := .seq (.seq (.ops [⟨some 51, none, .mv (.t 9)⟩,
      ⟨some 52, none, .bin .lss (.t 51) (.k (.i .i64 120))⟩])
    (.cond (.t 52) (.skip)
    (.exit 0)))
    (.seq (.block 1 (.seq (.draw 36 [⟨some 55, none, .mv (.t 9)⟩,
      ⟨some 56, none, .mv (.t 5)⟩,
      ⟨some 57, none, .bin .lss (.t 55) (.t 56)⟩,
      ⟨some 58, none, .mv (.t 57)⟩,
      ⟨some 59, (some (58, true)), .fa 0 (.t 7)⟩,
      ⟨some 60, (some (58, true)), .ld (.t 59)⟩,
      ⟨some 61, (some (58, true)), .mv (.t 9)⟩,
      ⟨some 62, (some (58, true)), .ia 1 (.t 60) (.t 61)⟩,
      ⟨some 63, (some (58, true)), .ld (.t 62)⟩,
      ⟨some 64, (some (58, true)), .fa 0 (.t 8)⟩,
      ⟨some 65, (some (58, true)), .ld (.t 64)⟩,
      ⟨some 66, (some (58, true)), .mv (.t 9)⟩,
      ⟨some 67, (some (58, true)), .ia 1 (.t 65) (.t 66)⟩,
      ⟨some 68, (some (58, true)), .ld (.t 67)⟩,
      ⟨some 69, (some (58, true)), .bin .neq (.t 63) (.t 68)⟩,
      ⟨some 70, none, .pick (.t 58) (.t 69) (.k (.b false))⟩,
      ⟨some 71, none, .mv (.t 70)⟩,
      ⟨some 72, (some (71, false)), .mv (.t 9)⟩,
      ⟨some 73, (some (71, false)), .mv (.t 5)⟩,
      ⟨some 74, (some (71, false)), .bin .geq (.t 72) (.t 73)⟩,
      ⟨some 75, (some (71, false)), .mv (.t 74)⟩,
      ⟨some 76, (some (75, true)), .mv (.t 9)⟩,
      ⟨some 77, (some (75, true)), .mv (.t 5)⟩,
      ⟨some 78, (some (75, true)), .mv (.t 6)⟩,
      ⟨some 79, (some (75, true)), .bin .add (.t 77) (.t 78)⟩,
      ⟨some 80, (some (75, true)), .bin .lss (.t 76) (.t 79)⟩,
      ⟨some 81, (some (71, false)), .pick (.t 75) (.t 80) (.k (.b false))⟩,
      ⟨some 82, (some (71, false)), .mv (.t 81)⟩,
      ⟨some 83, (some (82, true)), .fa 0 (.t 7)⟩,
      ⟨some 84, (some (82, true)), .ld (.t 83)⟩,
      ⟨some 85, (some (82, true)), .mv (.t 9)⟩,
      ⟨some 86, (some (82, true)), .ia 1 (.t 84) (.t 85)⟩,
      ⟨some 87, (some (82, true)), .ld (.t 86)⟩,
      ⟨some 88, (some (82, true)), .bin .neq (.t 87) (.k (.i .i64 (-1)))⟩,
      ⟨some 89, (some (71, false)), .pick (.t 82) (.t 88) (.k (.b false))⟩,
      ⟨some 90, none, .pick (.t 71) (.k (.b true)) (.t 89)⟩])
    (.cond (.t 90) (.seq (.ops [⟨some 2, none, .mv (.k (.b false))⟩])
    (.ret))
    (.skip))))
    (.ops [⟨some 53, none, .mv (.t 9)⟩,
      ⟨some 54, none, .bin .add (.t 53) (.k (.i .i64 1))⟩,
      ⟨some 9, none, .mv (.t 54)⟩]))
def c_laws_FnRunPaused : LC := .seq (.ops [⟨some 2, none, .mv (.k (.b false))⟩])
    (.seq (.seq (.ops [⟨some 10, none, .mv (.t 0)⟩,
      ⟨some 11, none, .len (.t 10)⟩,
      ⟨some 12, none, .bin .gtr (.t 11) (.k (.i .i64 1048576))⟩])
    (.cond (.t 12) (.seq (.ops [⟨some 2, none, .mv (.k (.b true))⟩])
    (.ret))
    (.skip)))
    (.seq (.ops [⟨some 14, none, .mv (.t 0)⟩,
      ⟨some 15, none, .call (.k (.fn n_spec_DrawRunPaused [] [])) [.t 14]⟩,
      ⟨some 13, none, .mv (.t 15)⟩,
      ⟨some 16, none, .ext 0 (.t 13)⟩,
      ⟨some 17, none, .ext 1 (.t 13)⟩,
      ⟨some 18, none, .ext 2 (.t 13)⟩,
      ⟨some 19, none, .ext 3 (.t 13)⟩,
      ⟨some 3, none, .mv (.t 16)⟩,
      ⟨some 4, none, .mv (.t 17)⟩,
      ⟨some 5, none, .mv (.t 18)⟩,
      ⟨some 6, none, .mv (.t 19)⟩])
    (.seq (.ops [⟨some 20, none, .mv (.t 3)⟩,
      ⟨some 21, none, .mv (.t 4)⟩,
      ⟨some 22, none, .mv (.t 5)⟩,
      ⟨some 23, none, .mv (.t 6)⟩,
      ⟨some 24, none, .call (.k (.fn n_impl_RunPaused [] [])) [.t 20, .t 21, .t 22, .t 23]⟩,
      ⟨some 7, none, .alloc ty_impl_Schedule [.sn, .sn]⟩,
      ⟨none, none, .st 2 (.t 7) (.t 24)⟩])
    (.seq (.seq (.plan [0, 1, 2, 3, 4] [⟨some 25, none, .ldn 2 (.t 7)⟩,
      ⟨some 26, none, .mv (.t 3)⟩,
      ⟨some 27, none, .mv (.t 4)⟩,
      ⟨some 28, none, .mv (.t 5)⟩,
      ⟨some 29, none, .mv (.t 6)⟩]
      (.one 5 ⟨some 30, none, .call (.k (.fn n_spec_RunPaused [] [])) [.t 26, .t 27, .t 28, .t 29]⟩ [(25, some 2, 7)] []
        []
      (.one 6 ⟨some 31, none, .call (.k (.fn n_laws_sameSchedule [] [])) [.t 25, .t 30]⟩ [] [7]
        [⟨some 32, none, .not (.t 31)⟩]
      .fin)))
    (.cond (.t 32) (.seq (.ops [⟨some 2, none, .mv (.k (.b false))⟩])
    (.ret))
    (.skip)))
    (.seq (.seq (.ops [⟨some 33, none, .fa 0 (.t 7)⟩,
      ⟨some 34, none, .ld (.t 33)⟩,
      ⟨some 35, none, .len (.t 34)⟩,
      ⟨some 36, none, .bin .neq (.t 35) (.k (.i .i64 120))⟩])
    (.cond (.t 36) (.seq (.ops [⟨some 37, none, .fa 0 (.t 7)⟩,
      ⟨some 38, none, .ld (.t 37)⟩,
      ⟨some 39, none, .len (.t 38)⟩,
      ⟨some 40, none, .fa 1 (.t 7)⟩,
      ⟨some 41, none, .ld (.t 40)⟩,
      ⟨some 42, none, .len (.t 41)⟩,
      ⟨some 43, none, .bin .add (.t 39) (.t 42)⟩,
      ⟨some 44, none, .bin .eql (.t 43) (.k (.i .i64 0))⟩,
      ⟨some 45, none, .mv (.t 44)⟩,
      ⟨some 46, (some (45, true)), .call (.k (.fn n_laws_alive [] [])) []⟩,
      ⟨some 47, none, .pick (.t 45) (.t 46) (.k (.b false))⟩,
      ⟨some 2, none, .mv (.t 47)⟩])
    (.ret))
    (.skip)))
    (.seq (.ops [⟨some 48, none, .mv (.t 3)⟩,
      ⟨some 49, none, .mv (.t 4)⟩,
      ⟨some 50, none, .call (.k (.fn n_impl_RunEdf [] [])) [.t 48, .t 49]⟩,
      ⟨some 8, none, .alloc ty_impl_Schedule [.sn, .sn]⟩,
      ⟨none, none, .st 2 (.t 8) (.t 50)⟩])
    (.seq (.seq (.ops [⟨some 9, none, .mv (.k (.i .i64 0))⟩])
    (.block 0 (.loop l0_laws_FnRunPaused)))
    (.seq (.plan [0, 1, 2, 4] [⟨some 91, none, .mv (.t 3)⟩,
      ⟨some 92, none, .mv (.t 4)⟩,
      ⟨some 93, none, .mv (.t 5)⟩,
      ⟨some 95, none, .ldn 2 (.t 8)⟩]
      (.one 3 ⟨some 94, none, .call (.k (.fn n_impl_RunPaused [] [])) [.t 91, .t 92, .t 93, .k (.i .i64 0)]⟩ [(95, some 2, 8)] []
        []
      (.one 5 ⟨some 96, none, .call (.k (.fn n_laws_sameSchedule [] [])) [.t 94, .t 95]⟩ [] [6]
        [⟨some 2, none, .mv (.t 96)⟩]
      .fin)))
    (.ret)))))))))
theorem k_laws_FnRunPaused : chkF Try.prog Try.f7 97 c_laws_FnRunPaused [.t 2] = true := by kernel_rfl
theorem call_laws_FnRunPaused {args : List AV} {σ : List AB} {K : AV → List AB → Prop} (hn : args.length ≤ 97) (hw : wpC Try.prog σ.length 97 c_laws_FnRunPaused (retP σ.length [.t 2] K) ⟨initT 0 args, σ⟩) : CallWp Try.prog n_laws_FnRunPaused args σ K := call_fn mixed Try.func7 k_laws_FnRunPaused hn hw

-- loop.example/deadlinescheduler/laws.FnSlack
-- l0_laws_FnSlack: live at the head: 3 4 5 6 7 80 81 82 83 84 85 86 87 88 89 90 91 92 93
def l0_laws_FnSlack : LC := .seq (.seq (.ops [⟨some 53, none, .mv (.t 7)⟩,
      ⟨some 54, none, .mv (.t 6)⟩,
      ⟨some 55, none, .bin .leq (.t 53) (.t 54)⟩])
    (.cond (.t 55) (.skip)
    (.exit 0)))
    (.seq (.block 1 (.seq (.ops [⟨some 61, none, .mv (.t 4)⟩,
      ⟨some 62, none, .mv (.t 3)⟩,
      ⟨some 63, none, .mv (.t 4)⟩,
      ⟨some 64, none, .mv (.t 5)⟩,
      ⟨some 65, none, .mv (.t 7)⟩,
      ⟨some 66, none, .call (.k (.fn n_impl_RunPaused [] [])) [.t 62, .t 63, .t 64, .t 65]⟩,
      ⟨some 67, none, .call (.k (.fn n_impl_Missed [] [])) [.t 61, .t 66]⟩,
      ⟨some 68, none, .len (.t 67)⟩,
      ⟨some 69, none, .bin .gtr (.t 68) (.k (.i .i64 0))⟩])
    (.cond (.t 69) (.seq (.ops [⟨some 2, none, .mv (.k (.b false))⟩])
    (.ret))
    (.skip))))
    (.ops [⟨some 56, none, .mv (.t 7)⟩,
      ⟨some 57, none, .bin .add (.t 56) (.k (.i .i64 1))⟩,
      ⟨some 58, none, .mv (.t 6)⟩,
      ⟨some 59, none, .bin .quo (.t 58) (.k (.i .i64 8))⟩,
      ⟨some 60, none, .bin .add (.t 57) (.t 59)⟩,
      ⟨some 7, none, .mv (.t 60)⟩]))
def c_laws_FnSlack : LC := .seq (.ops [⟨some 2, none, .mv (.k (.b false))⟩])
    (.seq (.seq (.ops [⟨some 8, none, .mv (.t 0)⟩,
      ⟨some 9, none, .len (.t 8)⟩,
      ⟨some 10, none, .bin .gtr (.t 9) (.k (.i .i64 1048576))⟩])
    (.cond (.t 10) (.seq (.ops [⟨some 2, none, .mv (.k (.b true))⟩])
    (.ret))
    (.skip)))
    (.seq (.ops [⟨some 12, none, .mv (.t 0)⟩,
      ⟨some 13, none, .call (.k (.fn n_spec_DrawSlack [] [])) [.t 12]⟩,
      ⟨some 11, none, .mv (.t 13)⟩,
      ⟨some 14, none, .ext 0 (.t 11)⟩,
      ⟨some 15, none, .ext 1 (.t 11)⟩,
      ⟨some 16, none, .ext 2 (.t 11)⟩,
      ⟨some 3, none, .mv (.t 14)⟩,
      ⟨some 4, none, .mv (.t 15)⟩,
      ⟨some 5, none, .mv (.t 16)⟩])
    (.seq (.ops [⟨some 17, none, .mv (.t 3)⟩,
      ⟨some 18, none, .mv (.t 4)⟩,
      ⟨some 19, none, .mv (.t 5)⟩,
      ⟨some 20, none, .call (.k (.fn n_impl_Slack [] [])) [.t 17, .t 18, .t 19]⟩,
      ⟨some 6, none, .mv (.t 20)⟩])
    (.seq (.seq (.ops [⟨some 21, none, .mv (.t 6)⟩,
      ⟨some 22, none, .mv (.t 3)⟩,
      ⟨some 23, none, .mv (.t 4)⟩,
      ⟨some 24, none, .mv (.t 5)⟩,
      ⟨some 25, none, .call (.k (.fn n_spec_Slack [] [])) [.t 22, .t 23, .t 24]⟩,
      ⟨some 26, none, .bin .neq (.t 21) (.t 25)⟩])
    (.cond (.t 26) (.seq (.ops [⟨some 2, none, .mv (.k (.b false))⟩])
    (.ret))
    (.skip)))
    (.seq (.seq (.ops [⟨some 27, none, .mv (.t 3)⟩,
      ⟨some 28, none, .mv (.t 4)⟩,
      ⟨some 29, none, .call (.k (.fn n_spec_JobsLegal [] [])) [.t 27, .t 28]⟩,
      ⟨some 30, none, .not (.t 29)⟩,
      ⟨some 31, none, .mv (.t 30)⟩,
      ⟨some 32, (some (31, false)), .mv (.t 5)⟩,
      ⟨some 33, (some (31, false)), .bin .lss (.t 32) (.k (.i .i64 0))⟩,
      ⟨some 34, none, .pick (.t 31) (.k (.b true)) (.t 33)⟩,
      ⟨some 35, none, .mv (.t 34)⟩,
      ⟨some 36, (some (35, false)), .mv (.t 5)⟩,
      ⟨some 37, (some (35, false)), .bin .gtr (.t 36) (.k (.i .i64 120))⟩,
      ⟨some 38, none, .pick (.t 35) (.k (.b true)) (.t 37)⟩])
    (.cond (.t 38) (.seq (.ops [⟨some 39, none, .mv (.t 6)⟩,
      ⟨some 40, none, .bin .eql (.t 39) (.k (.i .i64 (-1)))⟩,
      ⟨some 41, none, .mv (.t 40)⟩,
      ⟨some 42, (some (41, true)), .call (.k (.fn n_laws_alive [] [])) []⟩,
      ⟨some 43, none, .pick (.t 41) (.t 42) (.k (.b false))⟩,
      ⟨some 2, none, .mv (.t 43)⟩])
    (.ret))
    (.skip)))
    (.seq (.seq (.ops [⟨some 44, none, .mv (.t 6)⟩,
      ⟨some 45, none, .bin .lss (.t 44) (.k (.i .i64 0))⟩])
    (.cond (.t 45) (.seq (.ops [⟨some 46, none, .mv (.t 4)⟩,
      ⟨some 47, none, .mv (.t 3)⟩,
      ⟨some 48, none, .mv (.t 4)⟩,
      ⟨some 49, none, .call (.k (.fn n_impl_RunEdf [] [])) [.t 47, .t 48]⟩,
      ⟨some 50, none, .call (.k (.fn n_impl_Missed [] [])) [.t 46, .t 49]⟩,
      ⟨some 51, none, .len (.t 50)⟩,
      ⟨some 52, none, .bin .gtr (.t 51) (.k (.i .i64 0))⟩,
      ⟨some 2, none, .mv (.t 52)⟩])
    (.ret))
    (.skip)))
    (.seq (.seq (.ops [⟨some 7, none, .mv (.k (.i .i64 0))⟩])
    (.block 0 (.loop l0_laws_FnSlack)))
    (.seq (.ops [⟨some 70, none, .mv (.t 4)⟩,
      ⟨some 71, none, .mv (.t 3)⟩,
      ⟨some 72, none, .mv (.t 4)⟩,
      ⟨some 73, none, .mv (.t 5)⟩,
      ⟨some 74, none, .mv (.t 6)⟩,
      ⟨some 75, none, .call (.k (.fn n_impl_RunPaused [] [])) [.t 71, .t 72, .t 73, .t 74]⟩,
      ⟨some 76, none, .call (.k (.fn n_impl_Missed [] [])) [.t 70, .t 75]⟩,
      ⟨some 77, none, .len (.t 76)⟩,
      ⟨some 78, none, .bin .eql (.t 77) (.k (.i .i64 0))⟩,
      ⟨some 79, none, .mv (.t 78)⟩,
      ⟨some 80, (some (79, true)), .mv (.t 6)⟩,
      ⟨some 81, (some (79, true)), .bin .eql (.t 80) (.k (.i .i64 120))⟩,
      ⟨some 82, (some (79, true)), .mv (.t 81)⟩,
      ⟨some 83, (some (82, false)), .mv (.t 4)⟩,
      ⟨some 84, (some (82, false)), .mv (.t 3)⟩,
      ⟨some 85, (some (82, false)), .mv (.t 4)⟩,
      ⟨some 86, (some (82, false)), .mv (.t 5)⟩,
      ⟨some 87, (some (82, false)), .mv (.t 6)⟩,
      ⟨some 88, (some (82, false)), .bin .add (.t 87) (.k (.i .i64 1))⟩,
      ⟨some 89, (some (82, false)), .call (.k (.fn n_impl_RunPaused [] [])) [.t 84, .t 85, .t 86, .t 88]⟩,
      ⟨some 90, (some (82, false)), .call (.k (.fn n_impl_Missed [] [])) [.t 83, .t 89]⟩,
      ⟨some 91, (some (82, false)), .len (.t 90)⟩,
      ⟨some 92, (some (82, false)), .bin .gtr (.t 91) (.k (.i .i64 0))⟩,
      ⟨some 93, (some (79, true)), .pick (.t 82) (.k (.b true)) (.t 92)⟩,
      ⟨some 94, none, .pick (.t 79) (.t 93) (.k (.b false))⟩,
      ⟨some 2, none, .mv (.t 94)⟩])
    (.ret)))))))))
theorem k_laws_FnSlack : chkF Try.prog Try.f8 95 c_laws_FnSlack [.t 2] = true := by kernel_rfl
theorem call_laws_FnSlack {args : List AV} {σ : List AB} {K : AV → List AB → Prop} (hn : args.length ≤ 95) (hw : wpC Try.prog σ.length 95 c_laws_FnSlack (retP σ.length [.t 2] K) ⟨initT 0 args, σ⟩) : CallWp Try.prog n_laws_FnSlack args σ K := call_fn mixed Try.func8 k_laws_FnSlack hn hw

-- loop.example/deadlinescheduler/laws.FnExactRunPaused
def c_laws_FnExactRunPaused : LC := .seq (.ops [⟨some 8, none, .mv (.k (.b false))⟩])
    (.seq (.ops [⟨some 9, none, .mv (.k (.i .i64 1048576))⟩])
    (.seq (.ops [⟨some 18, none, .mv (.t 0)⟩,
      ⟨some 19, none, .mv (.t 9)⟩,
      ⟨some 20, none, .call (.k (.fn n_laws_szTaskS [] [])) [.t 18, .t 19]⟩,
      ⟨some 9, none, .mv (.t 20)⟩])
    (.seq (.seq (.ops [⟨some 21, none, .mv (.t 9)⟩,
      ⟨some 22, none, .bin .lss (.t 21) (.k (.i .i64 0))⟩])
    (.cond (.t 22) (.seq (.ops [⟨some 8, none, .mv (.k (.b true))⟩])
    (.ret))
    (.skip)))
    (.seq (.ops [⟨some 23, none, .mv (.t 1)⟩,
      ⟨some 24, none, .mv (.t 9)⟩,
      ⟨some 25, none, .call (.k (.fn n_laws_szJobS [] [])) [.t 23, .t 24]⟩,
      ⟨some 9, none, .mv (.t 25)⟩])
    (.seq (.seq (.ops [⟨some 26, none, .mv (.t 9)⟩,
      ⟨some 27, none, .bin .lss (.t 26) (.k (.i .i64 0))⟩])
    (.cond (.t 27) (.seq (.ops [⟨some 8, none, .mv (.k (.b true))⟩])
    (.ret))
    (.skip)))
    (.seq (.ops [⟨some 28, none, .mv (.t 0)⟩,
      ⟨some 29, none, .call (.k (.fn n_laws_toTaskS [] [])) [.t 28]⟩,
      ⟨some 30, none, .mv (.t 1)⟩,
      ⟨some 31, none, .call (.k (.fn n_laws_toJobS [] [])) [.t 30]⟩,
      ⟨some 32, none, .mv (.t 2)⟩,
      ⟨some 33, none, .mv (.t 3)⟩,
      ⟨some 34, none, .call (.k (.fn n_spec_RunPaused [] [])) [.t 29, .t 31, .t 32, .t 33]⟩,
      ⟨some 10, none, .alloc ty_impl_Schedule [.sn, .sn]⟩,
      ⟨none, none, .st 2 (.t 10) (.t 34)⟩])
    (.seq (.ops [⟨some 35, none, .mv (.t 0)⟩,
      ⟨some 36, none, .call (.k (.fn n_laws_toTaskS [] [])) [.t 35]⟩,
      ⟨some 11, none, .mv (.t 36)⟩])
    (.seq (.ops [⟨some 37, none, .mv (.t 1)⟩,
      ⟨some 38, none, .call (.k (.fn n_laws_toJobS [] [])) [.t 37]⟩,
      ⟨some 12, none, .mv (.t 38)⟩])
    (.seq (.ops [⟨some 39, none, .mv (.t 11)⟩,
      ⟨some 40, none, .mv (.t 12)⟩,
      ⟨some 41, none, .mv (.t 2)⟩,
      ⟨some 42, none, .mv (.t 3)⟩,
      ⟨some 43, none, .call (.k (.fn n_impl_RunPaused [] [])) [.t 39, .t 40, .t 41, .t 42]⟩,
      ⟨some 13, none, .alloc ty_impl_Schedule [.sn, .sn]⟩,
      ⟨none, none, .st 2 (.t 13) (.t 43)⟩])
    (.seq (.seq (.ops [⟨some 44, none, .ldn 2 (.t 13)⟩,
      ⟨some 45, none, .ldn 2 (.t 10)⟩,
      ⟨some 46, none, .call (.k (.fn n_laws_eqSchedule [] [])) [.t 44, .t 45]⟩,
      ⟨some 47, none, .not (.t 46)⟩])
    (.cond (.t 47) (.seq (.ops [⟨some 8, none, .mv (.k (.b false))⟩])
    (.ret))
    (.skip)))
    (.seq (.seq (.ops [⟨some 48, none, .mv (.t 11)⟩,
      ⟨some 49, none, .mv (.t 0)⟩,
      ⟨some 50, none, .call (.k (.fn n_laws_toTaskS [] [])) [.t 49]⟩,
      ⟨some 51, none, .call (.k (.fn n_laws_eqTaskS [] [])) [.t 48, .t 50]⟩,
      ⟨some 52, none, .not (.t 51)⟩])
    (.cond (.t 52) (.seq (.ops [⟨some 8, none, .mv (.k (.b false))⟩])
    (.ret))
    (.skip)))
    (.seq (.seq (.ops [⟨some 53, none, .mv (.t 12)⟩,
      ⟨some 54, none, .mv (.t 1)⟩,
      ⟨some 55, none, .call (.k (.fn n_laws_toJobS [] [])) [.t 54]⟩,
      ⟨some 56, none, .call (.k (.fn n_laws_eqJobS [] [])) [.t 53, .t 55]⟩,
      ⟨some 57, none, .not (.t 56)⟩])
    (.cond (.t 57) (.seq (.ops [⟨some 8, none, .mv (.k (.b false))⟩])
    (.ret))
    (.skip)))
    (.seq (.ops [⟨some 14, none, .mv (.k (.i .i64 1))⟩])
    (.seq (.ops [⟨some 58, none, .mv (.t 11)⟩,
      ⟨some 59, none, .mv (.t 14)⟩,
      ⟨some 60, none, .call (.k (.fn n_laws_markTaskS [] [])) [.t 58, .t 59]⟩,
      ⟨some 14, none, .mv (.t 60)⟩])
    (.seq (.ops [⟨some 61, none, .mv (.t 12)⟩,
      ⟨some 62, none, .mv (.t 14)⟩,
      ⟨some 63, none, .call (.k (.fn n_laws_markJobS [] [])) [.t 61, .t 62]⟩,
      ⟨some 14, none, .mv (.t 63)⟩])
    (.seq (.seq (.ops [⟨some 64, none, .mv (.t 14)⟩,
      ⟨some 65, none, .bin .lss (.t 64) (.k (.i .i64 0))⟩,
      ⟨some 66, none, .mv (.t 65)⟩,
      ⟨some 67, (some (66, false)), .ldn 2 (.t 13)⟩,
      ⟨some 68, (some (66, false)), .ldn 2 (.t 10)⟩,
      ⟨some 69, (some (66, false)), .call (.k (.fn n_laws_eqSchedule [] [])) [.t 67, .t 68]⟩,
      ⟨some 70, (some (66, false)), .not (.t 69)⟩,
      ⟨some 71, none, .pick (.t 66) (.k (.b true)) (.t 70)⟩])
    (.cond (.t 71) (.seq (.ops [⟨some 8, none, .mv (.k (.b false))⟩])
    (.ret))
    (.skip)))
    (.seq (.ops [⟨some 15, none, .mv (.k (.i .i64 1))⟩])
    (.seq (.ops [⟨some 72, none, .ldn 2 (.t 13)⟩,
      ⟨some 73, none, .mv (.t 15)⟩,
      ⟨some 74, none, .call (.k (.fn n_laws_markSchedule [] [])) [.t 72, .t 73]⟩,
      ⟨some 15, none, .mv (.t 74)⟩])
    (.seq (.ops [⟨some 16, none, .mv (.k (.i .i64 1))⟩])
    (.seq (.ops [⟨some 75, none, .ldn 2 (.t 13)⟩,
      ⟨some 76, none, .mv (.t 16)⟩,
      ⟨some 77, none, .call (.k (.fn n_laws_heldSchedule [] [])) [.t 75, .t 76]⟩,
      ⟨some 16, none, .mv (.t 77)⟩])
    (.seq (.seq (.ops [⟨some 78, none, .mv (.t 16)⟩,
      ⟨some 79, none, .bin .lss (.t 78) (.k (.i .i64 0))⟩])
    (.cond (.t 79) (.seq (.ops [⟨some 8, none, .mv (.k (.b false))⟩])
    (.ret))
    (.skip)))
    (.seq (.seq (.ops [⟨some 80, none, .mv (.t 16)⟩,
      ⟨some 81, none, .mv (.t 15)⟩,
      ⟨some 82, none, .bin .neq (.t 80) (.t 81)⟩])
    (.cond (.t 82) (.seq (.ops [⟨some 8, none, .mv (.k (.b false))⟩])
    (.ret))
    (.skip)))
    (.seq (.ops [⟨some 83, none, .mv (.t 0)⟩,
      ⟨some 84, none, .call (.k (.fn n_laws_toTaskS [] [])) [.t 83]⟩,
      ⟨some 85, none, .mv (.t 1)⟩,
      ⟨some 86, none, .call (.k (.fn n_laws_toJobS [] [])) [.t 85]⟩,
      ⟨some 87, none, .mv (.t 2)⟩,
      ⟨some 88, none, .mv (.t 3)⟩,
      ⟨some 89, none, .call (.k (.fn n_impl_RunPaused [] [])) [.t 84, .t 86, .t 87, .t 88]⟩,
      ⟨some 17, none, .alloc ty_impl_Schedule [.sn, .sn]⟩,
      ⟨none, none, .st 2 (.t 17) (.t 89)⟩])
    (.seq (.seq (.ops [⟨some 90, none, .ldn 2 (.t 17)⟩,
      ⟨some 91, none, .ldn 2 (.t 10)⟩,
      ⟨some 92, none, .call (.k (.fn n_laws_eqSchedule [] [])) [.t 90, .t 91]⟩,
      ⟨some 93, none, .not (.t 92)⟩])
    (.cond (.t 93) (.seq (.ops [⟨some 8, none, .mv (.k (.b false))⟩])
    (.ret))
    (.skip)))
    (.seq (.ops [⟨some 16, none, .mv (.k (.i .i64 1))⟩])
    (.seq (.ops [⟨some 94, none, .ldn 2 (.t 13)⟩,
      ⟨some 95, none, .mv (.t 16)⟩,
      ⟨some 96, none, .call (.k (.fn n_laws_heldSchedule [] [])) [.t 94, .t 95]⟩,
      ⟨some 16, none, .mv (.t 96)⟩])
    (.seq (.seq (.ops [⟨some 97, none, .mv (.t 16)⟩,
      ⟨some 98, none, .bin .lss (.t 97) (.k (.i .i64 0))⟩])
    (.cond (.t 98) (.seq (.ops [⟨some 8, none, .mv (.k (.b false))⟩])
    (.ret))
    (.skip)))
    (.seq (.seq (.ops [⟨some 99, none, .mv (.t 16)⟩,
      ⟨some 100, none, .mv (.t 15)⟩,
      ⟨some 101, none, .bin .neq (.t 99) (.t 100)⟩])
    (.cond (.t 101) (.seq (.ops [⟨some 8, none, .mv (.k (.b false))⟩])
    (.ret))
    (.skip)))
    (.seq (.ops [⟨some 8, none, .mv (.k (.b true))⟩])
    (.ret))))))))))))))))))))))))))))))
theorem k_laws_FnExactRunPaused : chkF Try.prog Try.f9 102 c_laws_FnExactRunPaused [.t 8] = true := by kernel_rfl
theorem call_laws_FnExactRunPaused {args : List AV} {σ : List AB} {K : AV → List AB → Prop} (hn : args.length ≤ 102) (hw : wpC Try.prog σ.length 102 c_laws_FnExactRunPaused (retP σ.length [.t 8] K) ⟨initT 0 args, σ⟩) : CallWp Try.prog n_laws_FnExactRunPaused args σ K := call_fn mixed Try.func9 k_laws_FnExactRunPaused hn hw

-- loop.example/deadlinescheduler/laws.FnStealSlack
-- region 14 draws, 30 of 30 first
-- region 19 draws, 16 of 16 first
-- region 21: no plan: a guarded load is open
-- region 21 draws, 24 of 25 first
-- l1_laws_FnStealSlack: live at the head: 3 4 5 6 7 73 74 75 76 77 80 81 82 83 84 85 86 87 88 89 90 91 92 93 109 110 111 112 113 114 115 116 117 118 131 132 133 134 135 136 137 138 139 140 141 142 143 144
-- l0_laws_FnStealSlack: live at the head: 3 4 5 6 8 109 110 111 112 113 114 115 116 117 118 131 132 133 134 135 136 137 138 139 140 141 142 143 144
def l0_laws_FnStealSlack : LC := .seq (.seq (.draw 16 [⟨some 104, none, .mv (.t 8)⟩,
      ⟨some 105, none, .mv (.t 6)⟩,
      ⟨some 106, none, .len (.t 105)⟩,
      ⟨some 107, none, .bin .lss (.t 104) (.t 106)⟩,
      ⟨some 108, none, .mv (.t 107)⟩,
      ⟨some 109, (some (108, true)), .mv (.t 6)⟩,
      ⟨some 110, (some (108, true)), .mv (.t 8)⟩,
      ⟨some 111, (some (108, true)), .ia 1 (.t 109) (.t 110)⟩,
      ⟨some 112, (some (108, true)), .ld (.t 111)⟩,
      ⟨some 113, (some (108, true)), .mv (.t 6)⟩,
      ⟨some 114, (some (108, true)), .ia 1 (.t 113) (.k (.i .i64 0))⟩,
      ⟨some 115, (some (108, true)), .ld (.t 114)⟩,
      ⟨some 116, (some (108, true)), .mv (.t 8)⟩,
      ⟨some 117, (some (108, true)), .bin .add (.t 115) (.t 116)⟩,
      ⟨some 118, (some (108, true)), .bin .eql (.t 112) (.t 117)⟩,
      ⟨some 119, none, .pick (.t 108) (.t 118) (.k (.b false))⟩])
    (.cond (.t 119) (.skip)
    (.exit 2)))
    (.block 3 (.ops [⟨some 120, none, .mv (.t 8)⟩,
      ⟨some 121, none, .bin .add (.t 120) (.k (.i .i64 1))⟩,
      ⟨some 8, none, .mv (.t 121)⟩]))
def l1_laws_FnStealSlack : LC := .seq (.seq (.ops [⟨some 59, none, .mv (.t 7)⟩,
      ⟨some 60, none, .mv (.t 6)⟩,
      ⟨some 61, none, .len (.t 60)⟩,
      ⟨some 62, none, .bin .lss (.t 59) (.t 61)⟩])
    (.cond (.t 62) (.skip)
    (.exit 0)))
    (.seq (.block 1 (.seq (.draw 30 [⟨some 65, none, .mv (.t 6)⟩,
      ⟨some 66, none, .mv (.t 7)⟩,
      ⟨some 67, none, .ia 1 (.t 65) (.t 66)⟩,
      ⟨some 68, none, .ld (.t 67)⟩,
      ⟨some 69, none, .fa 0 (.t 5)⟩,
      ⟨some 70, none, .ld (.t 69)⟩,
      ⟨some 71, none, .bin .lss (.t 68) (.t 70)⟩,
      ⟨some 72, none, .mv (.t 71)⟩,
      ⟨some 73, (some (72, false)), .mv (.t 6)⟩,
      ⟨some 74, (some (72, false)), .mv (.t 7)⟩,
      ⟨some 75, (some (72, false)), .ia 1 (.t 73) (.t 74)⟩,
      ⟨some 76, (some (72, false)), .ld (.t 75)⟩,
      ⟨some 77, (some (72, false)), .bin .geq (.t 76) (.k (.i .i64 120))⟩,
      ⟨some 78, none, .pick (.t 72) (.k (.b true)) (.t 77)⟩,
      ⟨some 79, none, .mv (.t 78)⟩,
      ⟨some 80, (some (79, false)), .mv (.t 7)⟩,
      ⟨some 81, (some (79, false)), .bin .gtr (.t 80) (.k (.i .i64 0))⟩,
      ⟨some 82, (some (79, false)), .mv (.t 81)⟩,
      ⟨some 83, (some (82, true)), .mv (.t 6)⟩,
      ⟨some 84, (some (82, true)), .mv (.t 7)⟩,
      ⟨some 85, (some (82, true)), .bin .sub (.t 84) (.k (.i .i64 1))⟩,
      ⟨some 86, (some (82, true)), .ia 1 (.t 83) (.t 85)⟩,
      ⟨some 87, (some (82, true)), .ld (.t 86)⟩,
      ⟨some 88, (some (82, true)), .mv (.t 6)⟩,
      ⟨some 89, (some (82, true)), .mv (.t 7)⟩,
      ⟨some 90, (some (82, true)), .ia 1 (.t 88) (.t 89)⟩,
      ⟨some 91, (some (82, true)), .ld (.t 90)⟩,
      ⟨some 92, (some (82, true)), .bin .geq (.t 87) (.t 91)⟩,
      ⟨some 93, (some (79, false)), .pick (.t 82) (.t 92) (.k (.b false))⟩,
      ⟨some 94, none, .pick (.t 79) (.k (.b true)) (.t 93)⟩])
    (.cond (.t 94) (.seq (.ops [⟨some 2, none, .mv (.k (.b false))⟩])
    (.ret))
    (.skip))))
    (.ops [⟨some 63, none, .mv (.t 7)⟩,
      ⟨some 64, none, .bin .add (.t 63) (.k (.i .i64 1))⟩,
      ⟨some 7, none, .mv (.t 64)⟩]))
def c_laws_FnStealSlack : LC := .seq (.ops [⟨some 2, none, .mv (.k (.b false))⟩])
    (.seq (.seq (.ops [⟨some 9, none, .mv (.t 0)⟩,
      ⟨some 10, none, .len (.t 9)⟩,
      ⟨some 11, none, .bin .gtr (.t 10) (.k (.i .i64 1048576))⟩])
    (.cond (.t 11) (.seq (.ops [⟨some 2, none, .mv (.k (.b true))⟩])
    (.ret))
    (.skip)))
    (.seq (.ops [⟨some 13, none, .mv (.t 0)⟩,
      ⟨some 14, none, .call (.k (.fn n_spec_DrawStealSlack [] [])) [.t 13]⟩,
      ⟨some 12, none, .mv (.t 14)⟩,
      ⟨some 15, none, .ext 0 (.t 12)⟩,
      ⟨some 16, none, .ext 1 (.t 12)⟩,
      ⟨some 17, none, .ext 2 (.t 12)⟩,
      ⟨some 5, none, .alloc ty_impl_Arrival [.i .i64 0, .i .i64 0]⟩,
      ⟨some 3, none, .mv (.t 15)⟩,
      ⟨some 4, none, .mv (.t 16)⟩,
      ⟨none, none, .st 2 (.t 5) (.t 17)⟩])
    (.seq (.ops [⟨some 18, none, .mv (.t 3)⟩,
      ⟨some 19, none, .mv (.t 4)⟩,
      ⟨some 20, none, .ldn 2 (.t 5)⟩,
      ⟨some 21, none, .call (.k (.fn n_impl_StealSlack [] [])) [.t 18, .t 19, .t 20]⟩,
      ⟨some 6, none, .mv (.t 21)⟩])
    (.seq (.seq (.ops [⟨some 22, none, .mv (.t 6)⟩,
      ⟨some 23, none, .mv (.t 3)⟩,
      ⟨some 24, none, .mv (.t 4)⟩,
      ⟨some 25, none, .ldn 2 (.t 5)⟩,
      ⟨some 26, none, .call (.k (.fn n_spec_StealSlack [] [])) [.t 23, .t 24, .t 25]⟩,
      ⟨some 27, none, .call (.k (.fn n_laws_sameInts [] [])) [.t 22, .t 26]⟩,
      ⟨some 28, none, .not (.t 27)⟩])
    (.cond (.t 28) (.seq (.ops [⟨some 2, none, .mv (.k (.b false))⟩])
    (.ret))
    (.skip)))
    (.seq (.seq (.ops [⟨some 29, none, .mv (.t 3)⟩,
      ⟨some 30, none, .mv (.t 4)⟩,
      ⟨some 31, none, .call (.k (.fn n_spec_JobsLegal [] [])) [.t 29, .t 30]⟩,
      ⟨some 32, none, .not (.t 31)⟩,
      ⟨some 33, none, .mv (.t 32)⟩,
      ⟨some 34, (some (33, false)), .ldn 2 (.t 5)⟩,
      ⟨some 35, (some (33, false)), .bsl ty_impl_Arrival [.i .i64 0, .i .i64 0] 1 [(0, 2, .t 34)]⟩,
      ⟨some 36, (some (33, false)), .call (.k (.fn n_spec_ArrivalsLegal [] [])) [.t 35]⟩,
      ⟨some 37, (some (33, false)), .not (.t 36)⟩,
      ⟨some 38, none, .pick (.t 33) (.k (.b true)) (.t 37)⟩,
      ⟨some 39, none, .mv (.t 38)⟩,
      ⟨some 40, (some (39, false)), .mv (.t 4)⟩,
      ⟨some 41, (some (39, false)), .mv (.t 3)⟩,
      ⟨some 42, (some (39, false)), .mv (.t 4)⟩,
      ⟨some 43, (some (39, false)), .call (.k (.fn n_impl_RunEdf [] [])) [.t 41, .t 42]⟩,
      ⟨some 44, (some (39, false)), .call (.k (.fn n_impl_Missed [] [])) [.t 40, .t 43]⟩,
      ⟨some 45, (some (39, false)), .len (.t 44)⟩,
      ⟨some 46, (some (39, false)), .bin .gtr (.t 45) (.k (.i .i64 0))⟩,
      ⟨some 47, none, .pick (.t 39) (.k (.b true)) (.t 46)⟩])
    (.cond (.t 47) (.seq (.ops [⟨some 48, none, .mv (.t 6)⟩,
      ⟨some 49, none, .len (.t 48)⟩,
      ⟨some 50, none, .bin .eql (.t 49) (.k (.i .i64 0))⟩,
      ⟨some 51, none, .mv (.t 50)⟩,
      ⟨some 52, (some (51, true)), .call (.k (.fn n_laws_alive [] [])) []⟩,
      ⟨some 53, none, .pick (.t 51) (.t 52) (.k (.b false))⟩,
      ⟨some 2, none, .mv (.t 53)⟩])
    (.ret))
    (.skip)))
    (.seq (.seq (.ops [⟨some 54, none, .mv (.t 6)⟩,
      ⟨some 55, none, .len (.t 54)⟩,
      ⟨some 56, none, .fa 1 (.t 5)⟩,
      ⟨some 57, none, .ld (.t 56)⟩,
      ⟨some 58, none, .bin .gtr (.t 55) (.t 57)⟩])
    (.cond (.t 58) (.seq (.ops [⟨some 2, none, .mv (.k (.b false))⟩])
    (.ret))
    (.skip)))
    (.seq (.seq (.ops [⟨some 7, none, .mv (.k (.i .i64 0))⟩])
    (.block 0 (.loop l1_laws_FnStealSlack)))
    (.seq (.seq (.ops [⟨some 95, none, .mv (.t 6)⟩,
      ⟨some 96, none, .len (.t 95)⟩,
      ⟨some 97, none, .bin .eql (.t 96) (.k (.i .i64 0))⟩])
    (.cond (.t 97) (.seq (.ops [⟨some 98, none, .mv (.t 3)⟩,
      ⟨some 99, none, .mv (.t 4)⟩,
      ⟨some 100, none, .fa 0 (.t 5)⟩,
      ⟨some 101, none, .ld (.t 100)⟩,
      ⟨some 102, none, .call (.k (.fn n_impl_Slack [] [])) [.t 98, .t 99, .t 101]⟩,
      ⟨some 103, none, .bin .eql (.t 102) (.k (.i .i64 0))⟩,
      ⟨some 2, none, .mv (.t 103)⟩])
    (.ret))
    (.skip)))
    (.seq (.ops [⟨some 8, none, .mv (.k (.i .i64 1))⟩])
    (.seq (.block 2 (.loop l0_laws_FnStealSlack))
    (.seq (.draw 24 [⟨some 122, none, .mv (.t 3)⟩,
      ⟨some 123, none, .mv (.t 4)⟩,
      ⟨some 124, none, .mv (.t 6)⟩,
      ⟨some 125, none, .ia 1 (.t 124) (.k (.i .i64 0))⟩,
      ⟨some 126, none, .ld (.t 125)⟩,
      ⟨some 127, none, .call (.k (.fn n_impl_Slack [] [])) [.t 122, .t 123, .t 126]⟩,
      ⟨some 128, none, .mv (.t 8)⟩,
      ⟨some 129, none, .bin .geq (.t 127) (.t 128)⟩,
      ⟨some 130, none, .mv (.t 129)⟩,
      ⟨some 131, (some (130, true)), .mv (.t 6)⟩,
      ⟨some 132, (some (130, true)), .ia 1 (.t 131) (.k (.i .i64 0))⟩,
      ⟨some 133, (some (130, true)), .ld (.t 132)⟩,
      ⟨some 134, (some (130, true)), .fa 0 (.t 5)⟩,
      ⟨some 135, (some (130, true)), .ld (.t 134)⟩,
      ⟨some 136, (some (130, true)), .bin .eql (.t 133) (.t 135)⟩,
      ⟨some 137, (some (130, true)), .mv (.t 136)⟩,
      ⟨some 138, (some (137, false)), .mv (.t 3)⟩,
      ⟨some 139, (some (137, false)), .mv (.t 4)⟩,
      ⟨some 140, (some (137, false)), .fa 0 (.t 5)⟩,
      ⟨some 141, (some (137, false)), .ld (.t 140)⟩,
      ⟨some 142, (some (137, false)), .call (.k (.fn n_impl_Slack [] [])) [.t 138, .t 139, .t 141]⟩,
      ⟨some 143, (some (137, false)), .bin .eql (.t 142) (.k (.i .i64 0))⟩,
      ⟨some 144, (some (130, true)), .pick (.t 137) (.k (.b true)) (.t 143)⟩,
      ⟨some 145, none, .pick (.t 130) (.t 144) (.k (.b false))⟩,
      ⟨some 2, none, .mv (.t 145)⟩])
    (.ret))))))))))))
theorem k_laws_FnStealSlack : chkF Try.prog Try.f10 146 c_laws_FnStealSlack [.t 2] = true := by kernel_rfl
theorem call_laws_FnStealSlack {args : List AV} {σ : List AB} {K : AV → List AB → Prop} (hn : args.length ≤ 146) (hw : wpC Try.prog σ.length 146 c_laws_FnStealSlack (retP σ.length [.t 2] K) ⟨initT 0 args, σ⟩) : CallWp Try.prog n_laws_FnStealSlack args σ K := call_fn mixed Try.func10 k_laws_FnStealSlack hn hw

-- loop.example/deadlinescheduler/laws.FnRunEdfChoice
-- region 5: a plan with 1 orders
-- region 17 draws, 24 of 24 first
-- region 18 draws, 33 of 33 first
-- l1_laws_FnRunEdfChoice: live at the head: 4 5 6 7 58 59 60 61 62 63 64 65 66 67 70 71 72 77 78 79 80 81 82 83 84 85 86 87 90 91 92 93 94 95 96 97 98 99 100 101 102 103 104 105
-- l0_laws_FnRunEdfChoice: live at the head: 4 5 6 7 8 9 58 59 60 61 62 63 64 65 66 67 70 71 72 77 78 79 80 81 82 83 84 85 86 87 90 91 92 93 94 95 96 97 98 99 100 101 102 103 104 105
def l0_laws_FnRunEdfChoice : LC := .seq (.seq (.ops [⟨some 44, none, .mv (.t 9)⟩,
      ⟨some 45, none, .mv (.t 4)⟩,
      ⟨some 46, none, .len (.t 45)⟩,
      ⟨some 47, none, .bin .lss (.t 44) (.t 46)⟩])
    (.cond (.t 47) (.skip)
    (.exit 2)))
    (.seq (.block 3 (.seq (.seq (.draw 24 [⟨some 50, none, .mv (.t 4)⟩,
      ⟨some 51, none, .mv (.t 9)⟩,
      ⟨some 52, none, .ia 4 (.t 50) (.t 51)⟩,
      ⟨some 53, none, .fa 1 (.t 52)⟩,
      ⟨some 54, none, .ld (.t 53)⟩,
      ⟨some 55, none, .mv (.t 7)⟩,
      ⟨some 56, none, .bin .gtr (.t 54) (.t 55)⟩,
      ⟨some 57, none, .mv (.t 56)⟩,
      ⟨some 58, (some (57, false)), .mv (.t 6)⟩,
      ⟨some 59, (some (57, false)), .mv (.t 9)⟩,
      ⟨some 60, (some (57, false)), .ia 1 (.t 58) (.t 59)⟩,
      ⟨some 61, (some (57, false)), .ld (.t 60)⟩,
      ⟨some 62, (some (57, false)), .mv (.t 4)⟩,
      ⟨some 63, (some (57, false)), .mv (.t 9)⟩,
      ⟨some 64, (some (57, false)), .ia 4 (.t 62) (.t 63)⟩,
      ⟨some 65, (some (57, false)), .fa 3 (.t 64)⟩,
      ⟨some 66, (some (57, false)), .ld (.t 65)⟩,
      ⟨some 67, (some (57, false)), .bin .eql (.t 61) (.t 66)⟩,
      ⟨some 68, none, .pick (.t 57) (.k (.b true)) (.t 67)⟩,
      ⟨some 69, none, .mv (.t 68)⟩,
      ⟨some 70, (some (69, false)), .mv (.t 9)⟩,
      ⟨some 71, (some (69, false)), .mv (.t 8)⟩,
      ⟨some 72, (some (69, false)), .bin .eql (.t 70) (.t 71)⟩,
      ⟨some 73, none, .pick (.t 69) (.k (.b true)) (.t 72)⟩])
    (.cond (.t 73) (.exit 3)
    (.skip)))
    (.seq (.draw 33 [⟨some 74, none, .mv (.t 8)⟩,
      ⟨some 75, none, .bin .lss (.t 74) (.k (.i .i64 0))⟩,
      ⟨some 76, none, .mv (.t 75)⟩,
      ⟨some 77, (some (76, false)), .mv (.t 4)⟩,
      ⟨some 78, (some (76, false)), .mv (.t 9)⟩,
      ⟨some 79, (some (76, false)), .ia 4 (.t 77) (.t 78)⟩,
      ⟨some 80, (some (76, false)), .fa 2 (.t 79)⟩,
      ⟨some 81, (some (76, false)), .ld (.t 80)⟩,
      ⟨some 82, (some (76, false)), .mv (.t 4)⟩,
      ⟨some 83, (some (76, false)), .mv (.t 8)⟩,
      ⟨some 84, (some (76, false)), .ia 4 (.t 82) (.t 83)⟩,
      ⟨some 85, (some (76, false)), .fa 2 (.t 84)⟩,
      ⟨some 86, (some (76, false)), .ld (.t 85)⟩,
      ⟨some 87, (some (76, false)), .bin .lss (.t 81) (.t 86)⟩,
      ⟨some 88, none, .pick (.t 76) (.k (.b true)) (.t 87)⟩,
      ⟨some 89, none, .mv (.t 88)⟩,
      ⟨some 90, (some (89, false)), .mv (.t 4)⟩,
      ⟨some 91, (some (89, false)), .mv (.t 9)⟩,
      ⟨some 92, (some (89, false)), .ia 4 (.t 90) (.t 91)⟩,
      ⟨some 93, (some (89, false)), .fa 2 (.t 92)⟩,
      ⟨some 94, (some (89, false)), .ld (.t 93)⟩,
      ⟨some 95, (some (89, false)), .mv (.t 4)⟩,
      ⟨some 96, (some (89, false)), .mv (.t 8)⟩,
      ⟨some 97, (some (89, false)), .ia 4 (.t 95) (.t 96)⟩,
      ⟨some 98, (some (89, false)), .fa 2 (.t 97)⟩,
      ⟨some 99, (some (89, false)), .ld (.t 98)⟩,
      ⟨some 100, (some (89, false)), .bin .eql (.t 94) (.t 99)⟩,
      ⟨some 101, (some (89, false)), .mv (.t 100)⟩,
      ⟨some 102, (some (101, true)), .mv (.t 9)⟩,
      ⟨some 103, (some (101, true)), .mv (.t 8)⟩,
      ⟨some 104, (some (101, true)), .bin .lss (.t 102) (.t 103)⟩,
      ⟨some 105, (some (89, false)), .pick (.t 101) (.t 104) (.k (.b false))⟩,
      ⟨some 106, none, .pick (.t 89) (.k (.b true)) (.t 105)⟩])
    (.cond (.t 106) (.seq (.ops [⟨some 2, none, .mv (.k (.b false))⟩])
    (.ret))
    (.skip)))))
    (.ops [⟨some 48, none, .mv (.t 9)⟩,
      ⟨some 49, none, .bin .add (.t 48) (.k (.i .i64 1))⟩,
      ⟨some 9, none, .mv (.t 49)⟩]))
def l1_laws_FnRunEdfChoice : LC := .seq (.seq (.ops [⟨some 35, none, .mv (.t 7)⟩,
      ⟨some 36, none, .bin .lss (.t 35) (.k (.i .i64 120))⟩])
    (.cond (.t 36) (.skip)
    (.exit 0)))
    (.seq (.block 1 (.seq (.ops [⟨some 39, none, .fa 0 (.t 5)⟩,
      ⟨some 40, none, .ld (.t 39)⟩,
      ⟨some 41, none, .mv (.t 7)⟩,
      ⟨some 42, none, .ia 1 (.t 40) (.t 41)⟩,
      ⟨some 43, none, .ld (.t 42)⟩,
      ⟨some 8, none, .mv (.t 43)⟩])
    (.seq (.seq (.ops [⟨some 9, none, .mv (.k (.i .i64 0))⟩])
    (.block 2 (.loop l0_laws_FnRunEdfChoice)))
    (.seq (.ops [⟨some 107, none, .mv (.t 8)⟩,
      ⟨some 108, none, .bin .geq (.t 107) (.k (.i .i64 0))⟩])
    (.cond (.t 108) (.ops [⟨some 109, none, .mv (.t 6)⟩,
      ⟨some 110, none, .mv (.t 8)⟩,
      ⟨some 111, none, .mv (.t 6)⟩,
      ⟨some 112, none, .mv (.t 8)⟩,
      ⟨some 113, none, .ia 1 (.t 111) (.t 112)⟩,
      ⟨some 114, none, .ld (.t 113)⟩,
      ⟨some 115, none, .bin .add (.t 114) (.k (.i .i64 1))⟩,
      ⟨some 116, none, .ia 1 (.t 109) (.t 110)⟩,
      ⟨none, none, .st 1 (.t 116) (.t 115)⟩])
    (.skip))))))
    (.ops [⟨some 37, none, .mv (.t 7)⟩,
      ⟨some 38, none, .bin .add (.t 37) (.k (.i .i64 1))⟩,
      ⟨some 7, none, .mv (.t 38)⟩]))
def c_laws_FnRunEdfChoice : LC := .seq (.ops [⟨some 2, none, .mv (.k (.b false))⟩])
    (.seq (.seq (.ops [⟨some 10, none, .mv (.t 0)⟩,
      ⟨some 11, none, .len (.t 10)⟩,
      ⟨some 12, none, .bin .gtr (.t 11) (.k (.i .i64 1048576))⟩])
    (.cond (.t 12) (.seq (.ops [⟨some 2, none, .mv (.k (.b true))⟩])
    (.ret))
    (.skip)))
    (.seq (.ops [⟨some 14, none, .mv (.t 0)⟩,
      ⟨some 15, none, .call (.k (.fn n_spec_DrawRunEdf [] [])) [.t 14]⟩,
      ⟨some 13, none, .mv (.t 15)⟩,
      ⟨some 16, none, .ext 0 (.t 13)⟩,
      ⟨some 17, none, .ext 1 (.t 13)⟩,
      ⟨some 3, none, .mv (.t 16)⟩,
      ⟨some 4, none, .mv (.t 17)⟩])
    (.seq (.ops [⟨some 18, none, .mv (.t 3)⟩,
      ⟨some 19, none, .mv (.t 4)⟩,
      ⟨some 20, none, .call (.k (.fn n_impl_RunEdf [] [])) [.t 18, .t 19]⟩,
      ⟨some 5, none, .alloc ty_impl_Schedule [.sn, .sn]⟩,
      ⟨none, none, .st 2 (.t 5) (.t 20)⟩])
    (.seq (.seq (.plan [0, 1, 2] [⟨some 21, none, .ldn 2 (.t 5)⟩,
      ⟨some 22, none, .mv (.t 3)⟩,
      ⟨some 23, none, .mv (.t 4)⟩]
      (.one 3 ⟨some 24, none, .call (.k (.fn n_spec_RunEdf [] [])) [.t 22, .t 23]⟩ [(21, some 2, 5)] []
        []
      (.one 4 ⟨some 25, none, .call (.k (.fn n_laws_sameSchedule [] [])) [.t 21, .t 24]⟩ [] [5]
        [⟨some 26, none, .not (.t 25)⟩]
      .fin)))
    (.cond (.t 26) (.seq (.ops [⟨some 2, none, .mv (.k (.b false))⟩])
    (.ret))
    (.skip)))
    (.seq (.seq (.ops [⟨some 27, none, .fa 0 (.t 5)⟩,
      ⟨some 28, none, .ld (.t 27)⟩,
      ⟨some 29, none, .len (.t 28)⟩,
      ⟨some 30, none, .bin .neq (.t 29) (.k (.i .i64 120))⟩])
    (.cond (.t 30) (.seq (.ops [⟨some 31, none, .call (.k (.fn n_laws_alive [] [])) []⟩,
      ⟨some 2, none, .mv (.t 31)⟩])
    (.ret))
    (.skip)))
    (.seq (.ops [⟨some 32, none, .mv (.t 4)⟩,
      ⟨some 33, none, .len (.t 32)⟩,
      ⟨some 34, none, .msl ty_int 8 [.i .i64 0] (.t 33)⟩,
      ⟨some 6, none, .mv (.t 34)⟩])
    (.seq (.seq (.ops [⟨some 7, none, .mv (.k (.i .i64 0))⟩])
    (.block 0 (.loop l1_laws_FnRunEdfChoice)))
    (.seq (.ops [⟨some 2, none, .mv (.k (.b true))⟩])
    (.ret)))))))))
theorem k_laws_FnRunEdfChoice : chkF Try.prog Try.f11 117 c_laws_FnRunEdfChoice [.t 2] = true := by kernel_rfl
theorem call_laws_FnRunEdfChoice {args : List AV} {σ : List AB} {K : AV → List AB → Prop} (hn : args.length ≤ 117) (hw : wpC Try.prog σ.length 117 c_laws_FnRunEdfChoice (retP σ.length [.t 2] K) ⟨initT 0 args, σ⟩) : CallWp Try.prog n_laws_FnRunEdfChoice args σ K := call_fn mixed Try.func11 k_laws_FnRunEdfChoice hn hw

-- loop.example/deadlinescheduler/laws.FnRunEdfPast
-- region 5: a plan with 1 orders
-- region 14 draws, 11 of 11 first
-- l0_laws_FnRunEdfPast: live at the head: 4 5 6 7 8
def l0_laws_FnRunEdfPast : LC := .seq (.seq (.ops [⟨some 46, none, .mv (.t 8)⟩,
      ⟨some 47, none, .mv (.t 4)⟩,
      ⟨some 48, none, .mv (.t 6)⟩,
      ⟨some 49, none, .ia 4 (.t 47) (.t 48)⟩,
      ⟨some 50, none, .fa 1 (.t 49)⟩,
      ⟨some 51, none, .ld (.t 50)⟩,
      ⟨some 52, none, .bin .lss (.t 46) (.t 51)⟩])
    (.cond (.t 52) (.skip)
    (.exit 0)))
    (.seq (.block 1 (.seq (.draw 11 [⟨some 55, none, .fa 0 (.t 7)⟩,
      ⟨some 56, none, .ld (.t 55)⟩,
      ⟨some 57, none, .mv (.t 8)⟩,
      ⟨some 58, none, .ia 1 (.t 56) (.t 57)⟩,
      ⟨some 59, none, .ld (.t 58)⟩,
      ⟨some 60, none, .fa 0 (.t 5)⟩,
      ⟨some 61, none, .ld (.t 60)⟩,
      ⟨some 62, none, .mv (.t 8)⟩,
      ⟨some 63, none, .ia 1 (.t 61) (.t 62)⟩,
      ⟨some 64, none, .ld (.t 63)⟩,
      ⟨some 65, none, .bin .neq (.t 59) (.t 64)⟩])
    (.cond (.t 65) (.seq (.ops [⟨some 2, none, .mv (.k (.b false))⟩])
    (.ret))
    (.skip))))
    (.ops [⟨some 53, none, .mv (.t 8)⟩,
      ⟨some 54, none, .bin .add (.t 53) (.k (.i .i64 1))⟩,
      ⟨some 8, none, .mv (.t 54)⟩]))
def c_laws_FnRunEdfPast : LC := .seq (.ops [⟨some 2, none, .mv (.k (.b false))⟩])
    (.seq (.seq (.ops [⟨some 9, none, .mv (.t 0)⟩,
      ⟨some 10, none, .len (.t 9)⟩,
      ⟨some 11, none, .bin .gtr (.t 10) (.k (.i .i64 1048576))⟩])
    (.cond (.t 11) (.seq (.ops [⟨some 2, none, .mv (.k (.b true))⟩])
    (.ret))
    (.skip)))
    (.seq (.ops [⟨some 13, none, .mv (.t 0)⟩,
      ⟨some 14, none, .call (.k (.fn n_spec_DrawRunEdf [] [])) [.t 13]⟩,
      ⟨some 12, none, .mv (.t 14)⟩,
      ⟨some 15, none, .ext 0 (.t 12)⟩,
      ⟨some 16, none, .ext 1 (.t 12)⟩,
      ⟨some 3, none, .mv (.t 15)⟩,
      ⟨some 4, none, .mv (.t 16)⟩])
    (.seq (.ops [⟨some 17, none, .mv (.t 3)⟩,
      ⟨some 18, none, .mv (.t 4)⟩,
      ⟨some 19, none, .call (.k (.fn n_impl_RunEdf [] [])) [.t 17, .t 18]⟩,
      ⟨some 5, none, .alloc ty_impl_Schedule [.sn, .sn]⟩,
      ⟨none, none, .st 2 (.t 5) (.t 19)⟩])
    (.seq (.seq (.plan [0, 1, 2] [⟨some 20, none, .ldn 2 (.t 5)⟩,
      ⟨some 21, none, .mv (.t 3)⟩,
      ⟨some 22, none, .mv (.t 4)⟩]
      (.one 3 ⟨some 23, none, .call (.k (.fn n_spec_RunEdf [] [])) [.t 21, .t 22]⟩ [(20, some 2, 5)] []
        []
      (.one 4 ⟨some 24, none, .call (.k (.fn n_laws_sameSchedule [] [])) [.t 20, .t 23]⟩ [] [5]
        [⟨some 25, none, .not (.t 24)⟩]
      .fin)))
    (.cond (.t 25) (.seq (.ops [⟨some 2, none, .mv (.k (.b false))⟩])
    (.ret))
    (.skip)))
    (.seq (.seq (.ops [⟨some 26, none, .fa 0 (.t 5)⟩,
      ⟨some 27, none, .ld (.t 26)⟩,
      ⟨some 28, none, .len (.t 27)⟩,
      ⟨some 29, none, .bin .neq (.t 28) (.k (.i .i64 120))⟩,
      ⟨some 30, none, .mv (.t 29)⟩,
      ⟨some 31, (some (30, false)), .mv (.t 4)⟩,
      ⟨some 32, (some (30, false)), .len (.t 31)⟩,
      ⟨some 33, (some (30, false)), .bin .eql (.t 32) (.k (.i .i64 0))⟩,
      ⟨some 34, none, .pick (.t 30) (.k (.b true)) (.t 33)⟩])
    (.cond (.t 34) (.seq (.ops [⟨some 35, none, .call (.k (.fn n_laws_alive [] [])) []⟩,
      ⟨some 2, none, .mv (.t 35)⟩])
    (.ret))
    (.skip)))
    (.seq (.ops [⟨some 36, none, .mv (.t 0)⟩,
      ⟨some 37, none, .len (.t 36)⟩,
      ⟨some 38, none, .mv (.t 4)⟩,
      ⟨some 39, none, .len (.t 38)⟩,
      ⟨some 40, none, .bin .rem (.t 37) (.t 39)⟩,
      ⟨some 6, none, .mv (.t 40)⟩])
    (.seq (.ops [⟨some 41, none, .mv (.t 3)⟩,
      ⟨some 42, none, .mv (.t 4)⟩,
      ⟨some 43, none, .mv (.t 6)⟩,
      ⟨some 44, none, .slc 4 (.t 42) none (some (.t 43)) none⟩,
      ⟨some 45, none, .call (.k (.fn n_impl_RunEdf [] [])) [.t 41, .t 44]⟩,
      ⟨some 7, none, .alloc ty_impl_Schedule [.sn, .sn]⟩,
      ⟨none, none, .st 2 (.t 7) (.t 45)⟩])
    (.seq (.seq (.ops [⟨some 8, none, .mv (.k (.i .i64 0))⟩])
    (.block 0 (.loop l0_laws_FnRunEdfPast)))
    (.seq (.ops [⟨some 66, none, .fa 0 (.t 7)⟩,
      ⟨some 67, none, .ld (.t 66)⟩,
      ⟨some 68, none, .len (.t 67)⟩,
      ⟨some 69, none, .bin .eql (.t 68) (.k (.i .i64 120))⟩,
      ⟨some 2, none, .mv (.t 69)⟩])
    (.ret))))))))))
theorem k_laws_FnRunEdfPast : chkF Try.prog Try.f12 70 c_laws_FnRunEdfPast [.t 2] = true := by kernel_rfl
theorem call_laws_FnRunEdfPast {args : List AV} {σ : List AB} {K : AV → List AB → Prop} (hn : args.length ≤ 70) (hw : wpC Try.prog σ.length 70 c_laws_FnRunEdfPast (retP σ.length [.t 2] K) ⟨initT 0 args, σ⟩) : CallWp Try.prog n_laws_FnRunEdfPast args σ K := call_fn mixed Try.func12 k_laws_FnRunEdfPast hn hw

-- loop.example/deadlinescheduler/laws.FnRunEdf
-- region 5: a plan with 1 orders
-- region 21 draws, 46 of 46 first
-- l1_laws_FnRunEdf: live at the head: 4 5 6 69 70 71 72 75 76 77 78 79 80 81 82 83 84 85 86 87 88 89 90 91 92 93 94 95 96 97 98 99 100 101 102 121 122 123 124 125 126 127 130 131 132 133 134 135 136 137 138 139 140 141 142 143 144 145 146 147 148 149 150 151 152 153 154 155 156 157 158
-- l0_laws_FnRunEdf: live at the head: 4 5 8 121 122 123 124 125 126 127 130 131 132 133 134 135 136 137 138 139 140 141 142 143 144 145 146 147 148 149 150 151 152 153 154 155 156 157 158
def l0_laws_FnRunEdf : LC := .seq (.seq (.ops [⟨some 104, none, .mv (.t 8)⟩,
      ⟨some 105, none, .mv (.t 4)⟩,
      ⟨some 106, none, .len (.t 105)⟩,
      ⟨some 107, none, .bin .lss (.t 104) (.t 106)⟩])
    (.cond (.t 107) (.skip)
    (.exit 2)))
    (.seq (.block 3 (.seq (.ops [⟨some 110, none, .fa 0 (.t 5)⟩,
      ⟨some 111, none, .ld (.t 110)⟩,
      ⟨some 112, none, .mv (.t 8)⟩,
      ⟨some 113, none, .call (.k (.fn n_laws_ticks [] [])) [.t 111, .t 112]⟩,
      ⟨some 9, none, .mv (.t 113)⟩])
    (.seq (.draw 46 [⟨some 114, none, .fa 1 (.t 5)⟩,
      ⟨some 115, none, .ld (.t 114)⟩,
      ⟨some 116, none, .mv (.t 8)⟩,
      ⟨some 117, none, .ia 1 (.t 115) (.t 116)⟩,
      ⟨some 118, none, .ld (.t 117)⟩,
      ⟨some 119, none, .bin .lss (.t 118) (.k (.i .i64 0))⟩,
      ⟨some 120, none, .mv (.t 119)⟩,
      ⟨some 121, (some (120, true)), .mv (.t 9)⟩,
      ⟨some 122, (some (120, true)), .mv (.t 4)⟩,
      ⟨some 123, (some (120, true)), .mv (.t 8)⟩,
      ⟨some 124, (some (120, true)), .ia 4 (.t 122) (.t 123)⟩,
      ⟨some 125, (some (120, true)), .fa 3 (.t 124)⟩,
      ⟨some 126, (some (120, true)), .ld (.t 125)⟩,
      ⟨some 127, (some (120, true)), .bin .geq (.t 121) (.t 126)⟩,
      ⟨some 128, none, .pick (.t 120) (.t 127) (.k (.b false))⟩,
      ⟨some 129, none, .mv (.t 128)⟩,
      ⟨some 130, (some (129, false)), .fa 1 (.t 5)⟩,
      ⟨some 131, (some (129, false)), .ld (.t 130)⟩,
      ⟨some 132, (some (129, false)), .mv (.t 8)⟩,
      ⟨some 133, (some (129, false)), .ia 1 (.t 131) (.t 132)⟩,
      ⟨some 134, (some (129, false)), .ld (.t 133)⟩,
      ⟨some 135, (some (129, false)), .bin .geq (.t 134) (.k (.i .i64 0))⟩,
      ⟨some 136, (some (129, false)), .mv (.t 135)⟩,
      ⟨some 137, (some (136, true)), .mv (.t 9)⟩,
      ⟨some 138, (some (136, true)), .mv (.t 4)⟩,
      ⟨some 139, (some (136, true)), .mv (.t 8)⟩,
      ⟨some 140, (some (136, true)), .ia 4 (.t 138) (.t 139)⟩,
      ⟨some 141, (some (136, true)), .fa 3 (.t 140)⟩,
      ⟨some 142, (some (136, true)), .ld (.t 141)⟩,
      ⟨some 143, (some (136, true)), .bin .neq (.t 137) (.t 142)⟩,
      ⟨some 144, (some (136, true)), .mv (.t 143)⟩,
      ⟨some 145, (some (144, false)), .fa 0 (.t 5)⟩,
      ⟨some 146, (some (144, false)), .ld (.t 145)⟩,
      ⟨some 147, (some (144, false)), .fa 1 (.t 5)⟩,
      ⟨some 148, (some (144, false)), .ld (.t 147)⟩,
      ⟨some 149, (some (144, false)), .mv (.t 8)⟩,
      ⟨some 150, (some (144, false)), .ia 1 (.t 148) (.t 149)⟩,
      ⟨some 151, (some (144, false)), .ld (.t 150)⟩,
      ⟨some 152, (some (144, false)), .bin .sub (.t 151) (.k (.i .i64 1))⟩,
      ⟨some 153, (some (144, false)), .ia 1 (.t 146) (.t 152)⟩,
      ⟨some 154, (some (144, false)), .ld (.t 153)⟩,
      ⟨some 155, (some (144, false)), .mv (.t 8)⟩,
      ⟨some 156, (some (144, false)), .bin .neq (.t 154) (.t 155)⟩,
      ⟨some 157, (some (136, true)), .pick (.t 144) (.k (.b true)) (.t 156)⟩,
      ⟨some 158, (some (129, false)), .pick (.t 136) (.t 157) (.k (.b false))⟩,
      ⟨some 159, none, .pick (.t 129) (.k (.b true)) (.t 158)⟩])
    (.cond (.t 159) (.seq (.ops [⟨some 2, none, .mv (.k (.b false))⟩])
    (.ret))
    (.skip)))))
    (.ops [⟨some 108, none, .mv (.t 8)⟩,
      ⟨some 109, none, .bin .add (.t 108) (.k (.i .i64 1))⟩,
      ⟨some 8, none, .mv (.t 109)⟩]))
def l1_laws_FnRunEdf : LC := .seq (.seq (.ops [⟨some 54, none, .mv (.t 6)⟩,
      ⟨some 55, none, .fa 0 (.t 5)⟩,
      ⟨some 56, none, .ld (.t 55)⟩,
      ⟨some 57, none, .len (.t 56)⟩,
      ⟨some 58, none, .bin .lss (.t 54) (.t 57)⟩])
    (.cond (.t 58) (.skip)
    (.exit 0)))
    (.seq (.block 1 (.seq (.ops [⟨some 61, none, .fa 0 (.t 5)⟩,
      ⟨some 62, none, .ld (.t 61)⟩,
      ⟨some 63, none, .mv (.t 6)⟩,
      ⟨some 64, none, .ia 1 (.t 62) (.t 63)⟩,
      ⟨some 65, none, .ld (.t 64)⟩,
      ⟨some 7, none, .mv (.t 65)⟩])
    (.seq (.ops [⟨some 66, none, .mv (.t 7)⟩,
      ⟨some 67, none, .bin .lss (.t 66) (.k (.i .i64 (-1)))⟩,
      ⟨some 68, none, .mv (.t 67)⟩,
      ⟨some 69, (some (68, false)), .mv (.t 7)⟩,
      ⟨some 70, (some (68, false)), .mv (.t 4)⟩,
      ⟨some 71, (some (68, false)), .len (.t 70)⟩,
      ⟨some 72, (some (68, false)), .bin .geq (.t 69) (.t 71)⟩,
      ⟨some 73, none, .pick (.t 68) (.k (.b true)) (.t 72)⟩,
      ⟨some 74, none, .mv (.t 73)⟩,
      ⟨some 75, (some (74, false)), .mv (.t 7)⟩,
      ⟨some 76, (some (74, false)), .bin .geq (.t 75) (.k (.i .i64 0))⟩,
      ⟨some 77, (some (74, false)), .mv (.t 76)⟩,
      ⟨some 78, (some (77, true)), .mv (.t 4)⟩,
      ⟨some 79, (some (77, true)), .mv (.t 7)⟩,
      ⟨some 80, (some (77, true)), .ia 4 (.t 78) (.t 79)⟩,
      ⟨some 81, (some (77, true)), .fa 1 (.t 80)⟩,
      ⟨some 82, (some (77, true)), .ld (.t 81)⟩,
      ⟨some 83, (some (77, true)), .mv (.t 6)⟩,
      ⟨some 84, (some (77, true)), .bin .gtr (.t 82) (.t 83)⟩,
      ⟨some 85, (some (77, true)), .mv (.t 84)⟩,
      ⟨some 86, (some (85, false)), .fa 1 (.t 5)⟩,
      ⟨some 87, (some (85, false)), .ld (.t 86)⟩,
      ⟨some 88, (some (85, false)), .mv (.t 7)⟩,
      ⟨some 89, (some (85, false)), .ia 1 (.t 87) (.t 88)⟩,
      ⟨some 90, (some (85, false)), .ld (.t 89)⟩,
      ⟨some 91, (some (85, false)), .bin .geq (.t 90) (.k (.i .i64 0))⟩,
      ⟨some 92, (some (85, false)), .mv (.t 91)⟩,
      ⟨some 93, (some (92, true)), .fa 1 (.t 5)⟩,
      ⟨some 94, (some (92, true)), .ld (.t 93)⟩,
      ⟨some 95, (some (92, true)), .mv (.t 7)⟩,
      ⟨some 96, (some (92, true)), .ia 1 (.t 94) (.t 95)⟩,
      ⟨some 97, (some (92, true)), .ld (.t 96)⟩,
      ⟨some 98, (some (92, true)), .mv (.t 6)⟩,
      ⟨some 99, (some (92, true)), .bin .leq (.t 97) (.t 98)⟩,
      ⟨some 100, (some (85, false)), .pick (.t 92) (.t 99) (.k (.b false))⟩,
      ⟨some 101, (some (77, true)), .pick (.t 85) (.k (.b true)) (.t 100)⟩,
      ⟨some 102, (some (74, false)), .pick (.t 77) (.t 101) (.k (.b false))⟩,
      ⟨some 103, none, .pick (.t 74) (.k (.b true)) (.t 102)⟩])
    (.cond (.t 103) (.seq (.ops [⟨some 2, none, .mv (.k (.b false))⟩])
    (.ret))
    (.skip)))))
    (.ops [⟨some 59, none, .mv (.t 6)⟩,
      ⟨some 60, none, .bin .add (.t 59) (.k (.i .i64 1))⟩,
      ⟨some 6, none, .mv (.t 60)⟩]))
def c_laws_FnRunEdf : LC := .seq (.ops [⟨some 2, none, .mv (.k (.b false))⟩])
    (.seq (.seq (.ops [⟨some 10, none, .mv (.t 0)⟩,
      ⟨some 11, none, .len (.t 10)⟩,
      ⟨some 12, none, .bin .gtr (.t 11) (.k (.i .i64 1048576))⟩])
    (.cond (.t 12) (.seq (.ops [⟨some 2, none, .mv (.k (.b true))⟩])
    (.ret))
    (.skip)))
    (.seq (.ops [⟨some 14, none, .mv (.t 0)⟩,
      ⟨some 15, none, .call (.k (.fn n_spec_DrawRunEdf [] [])) [.t 14]⟩,
      ⟨some 13, none, .mv (.t 15)⟩,
      ⟨some 16, none, .ext 0 (.t 13)⟩,
      ⟨some 17, none, .ext 1 (.t 13)⟩,
      ⟨some 3, none, .mv (.t 16)⟩,
      ⟨some 4, none, .mv (.t 17)⟩])
    (.seq (.ops [⟨some 18, none, .mv (.t 3)⟩,
      ⟨some 19, none, .mv (.t 4)⟩,
      ⟨some 20, none, .call (.k (.fn n_impl_RunEdf [] [])) [.t 18, .t 19]⟩,
      ⟨some 5, none, .alloc ty_impl_Schedule [.sn, .sn]⟩,
      ⟨none, none, .st 2 (.t 5) (.t 20)⟩])
    (.seq (.seq (.plan [0, 1, 2] [⟨some 21, none, .ldn 2 (.t 5)⟩,
      ⟨some 22, none, .mv (.t 3)⟩,
      ⟨some 23, none, .mv (.t 4)⟩]
      (.one 3 ⟨some 24, none, .call (.k (.fn n_spec_RunEdf [] [])) [.t 22, .t 23]⟩ [(21, some 2, 5)] []
        []
      (.one 4 ⟨some 25, none, .call (.k (.fn n_laws_sameSchedule [] [])) [.t 21, .t 24]⟩ [] [5]
        [⟨some 26, none, .not (.t 25)⟩]
      .fin)))
    (.cond (.t 26) (.seq (.ops [⟨some 2, none, .mv (.k (.b false))⟩])
    (.ret))
    (.skip)))
    (.seq (.seq (.ops [⟨some 27, none, .mv (.t 3)⟩,
      ⟨some 28, none, .mv (.t 4)⟩,
      ⟨some 29, none, .call (.k (.fn n_spec_JobsLegal [] [])) [.t 27, .t 28]⟩,
      ⟨some 30, none, .not (.t 29)⟩])
    (.cond (.t 30) (.seq (.ops [⟨some 31, none, .fa 0 (.t 5)⟩,
      ⟨some 32, none, .ld (.t 31)⟩,
      ⟨some 33, none, .len (.t 32)⟩,
      ⟨some 34, none, .fa 1 (.t 5)⟩,
      ⟨some 35, none, .ld (.t 34)⟩,
      ⟨some 36, none, .len (.t 35)⟩,
      ⟨some 37, none, .bin .add (.t 33) (.t 36)⟩,
      ⟨some 38, none, .bin .eql (.t 37) (.k (.i .i64 0))⟩,
      ⟨some 39, none, .mv (.t 38)⟩,
      ⟨some 40, (some (39, true)), .call (.k (.fn n_laws_alive [] [])) []⟩,
      ⟨some 41, none, .pick (.t 39) (.t 40) (.k (.b false))⟩,
      ⟨some 2, none, .mv (.t 41)⟩])
    (.ret))
    (.skip)))
    (.seq (.seq (.ops [⟨some 42, none, .fa 0 (.t 5)⟩,
      ⟨some 43, none, .ld (.t 42)⟩,
      ⟨some 44, none, .len (.t 43)⟩,
      ⟨some 45, none, .bin .neq (.t 44) (.k (.i .i64 120))⟩,
      ⟨some 46, none, .mv (.t 45)⟩,
      ⟨some 47, (some (46, false)), .fa 1 (.t 5)⟩,
      ⟨some 48, (some (46, false)), .ld (.t 47)⟩,
      ⟨some 49, (some (46, false)), .len (.t 48)⟩,
      ⟨some 50, (some (46, false)), .mv (.t 4)⟩,
      ⟨some 51, (some (46, false)), .len (.t 50)⟩,
      ⟨some 52, (some (46, false)), .bin .neq (.t 49) (.t 51)⟩,
      ⟨some 53, none, .pick (.t 46) (.k (.b true)) (.t 52)⟩])
    (.cond (.t 53) (.seq (.ops [⟨some 2, none, .mv (.k (.b false))⟩])
    (.ret))
    (.skip)))
    (.seq (.seq (.ops [⟨some 6, none, .mv (.k (.i .i64 0))⟩])
    (.block 0 (.loop l1_laws_FnRunEdf)))
    (.seq (.seq (.ops [⟨some 8, none, .mv (.k (.i .i64 0))⟩])
    (.block 2 (.loop l0_laws_FnRunEdf)))
    (.seq (.ops [⟨some 2, none, .mv (.k (.b true))⟩])
    (.ret))))))))))
theorem k_laws_FnRunEdf : chkF Try.prog Try.f13 160 c_laws_FnRunEdf [.t 2] = true := by kernel_rfl
theorem call_laws_FnRunEdf {args : List AV} {σ : List AB} {K : AV → List AB → Prop} (hn : args.length ≤ 160) (hw : wpC Try.prog σ.length 160 c_laws_FnRunEdf (retP σ.length [.t 2] K) ⟨initT 0 args, σ⟩) : CallWp Try.prog n_laws_FnRunEdf args σ K := call_fn mixed Try.func13 k_laws_FnRunEdf hn hw

-- loop.example/deadlinescheduler/laws.FnEdfSafe
-- region 5: a plan with 1 orders
def c_laws_FnEdfSafe : LC := .seq (.ops [⟨some 2, none, .mv (.k (.b false))⟩])
    (.seq (.seq (.ops [⟨some 6, none, .mv (.t 0)⟩,
      ⟨some 7, none, .len (.t 6)⟩,
      ⟨some 8, none, .bin .gtr (.t 7) (.k (.i .i64 1048576))⟩])
    (.cond (.t 8) (.seq (.ops [⟨some 2, none, .mv (.k (.b true))⟩])
    (.ret))
    (.skip)))
    (.seq (.ops [⟨some 10, none, .mv (.t 0)⟩,
      ⟨some 11, none, .call (.k (.fn n_spec_DrawRunEdf [] [])) [.t 10]⟩,
      ⟨some 9, none, .mv (.t 11)⟩,
      ⟨some 12, none, .ext 0 (.t 9)⟩,
      ⟨some 13, none, .ext 1 (.t 9)⟩,
      ⟨some 3, none, .mv (.t 12)⟩,
      ⟨some 4, none, .mv (.t 13)⟩])
    (.seq (.ops [⟨some 14, none, .mv (.t 3)⟩,
      ⟨some 15, none, .mv (.t 4)⟩,
      ⟨some 16, none, .call (.k (.fn n_impl_RunEdf [] [])) [.t 14, .t 15]⟩,
      ⟨some 5, none, .alloc ty_impl_Schedule [.sn, .sn]⟩,
      ⟨none, none, .st 2 (.t 5) (.t 16)⟩])
    (.seq (.seq (.plan [0, 1, 2] [⟨some 17, none, .ldn 2 (.t 5)⟩,
      ⟨some 18, none, .mv (.t 3)⟩,
      ⟨some 19, none, .mv (.t 4)⟩]
      (.one 3 ⟨some 20, none, .call (.k (.fn n_spec_RunEdf [] [])) [.t 18, .t 19]⟩ [(17, some 2, 5)] []
        []
      (.one 4 ⟨some 21, none, .call (.k (.fn n_laws_sameSchedule [] [])) [.t 17, .t 20]⟩ [] [5]
        [⟨some 22, none, .not (.t 21)⟩]
      .fin)))
    (.cond (.t 22) (.seq (.ops [⟨some 2, none, .mv (.k (.b false))⟩])
    (.ret))
    (.skip)))
    (.seq (.seq (.ops [⟨some 23, none, .mv (.t 3)⟩,
      ⟨some 24, none, .mv (.t 4)⟩,
      ⟨some 25, none, .call (.k (.fn n_spec_JobsLegal [] [])) [.t 23, .t 24]⟩,
      ⟨some 26, none, .not (.t 25)⟩,
      ⟨some 27, none, .mv (.t 26)⟩,
      ⟨some 28, (some (27, false)), .mv (.t 3)⟩,
      ⟨some 29, (some (27, false)), .call (.k (.fn n_impl_EdfFeasible [] [])) [.t 28]⟩,
      ⟨some 30, (some (27, false)), .not (.t 29)⟩,
      ⟨some 31, none, .pick (.t 27) (.k (.b true)) (.t 30)⟩])
    (.cond (.t 31) (.seq (.ops [⟨some 32, none, .call (.k (.fn n_laws_alive [] [])) []⟩,
      ⟨some 2, none, .mv (.t 32)⟩])
    (.ret))
    (.skip)))
    (.seq (.ops [⟨some 33, none, .mv (.t 4)⟩,
      ⟨some 34, none, .ldn 2 (.t 5)⟩,
      ⟨some 35, none, .call (.k (.fn n_impl_Missed [] [])) [.t 33, .t 34]⟩,
      ⟨some 36, none, .len (.t 35)⟩,
      ⟨some 37, none, .bin .eql (.t 36) (.k (.i .i64 0))⟩,
      ⟨some 38, none, .mv (.t 37)⟩,
      ⟨some 39, (some (38, true)), .fa 0 (.t 5)⟩,
      ⟨some 40, (some (38, true)), .ld (.t 39)⟩,
      ⟨some 41, (some (38, true)), .len (.t 40)⟩,
      ⟨some 42, (some (38, true)), .bin .eql (.t 41) (.k (.i .i64 120))⟩,
      ⟨some 43, none, .pick (.t 38) (.t 42) (.k (.b false))⟩,
      ⟨some 2, none, .mv (.t 43)⟩])
    (.ret)))))))
theorem k_laws_FnEdfSafe : chkF Try.prog Try.f14 44 c_laws_FnEdfSafe [.t 2] = true := by kernel_rfl
theorem call_laws_FnEdfSafe {args : List AV} {σ : List AB} {K : AV → List AB → Prop} (hn : args.length ≤ 44) (hw : wpC Try.prog σ.length 44 c_laws_FnEdfSafe (retP σ.length [.t 2] K) ⟨initT 0 args, σ⟩) : CallWp Try.prog n_laws_FnEdfSafe args σ K := call_fn mixed Try.func14 k_laws_FnEdfSafe hn hw

-- loop.example/deadlinescheduler/spec.DrawRunJitter
def c_spec_DrawRunJitter : LC := .seq (.ops [⟨some 2, none, .mv (.k (.sn))⟩,
      ⟨some 3, none, .mv (.k (.sn))⟩,
      ⟨some 4, none, .mv (.k (.sn))⟩,
      ⟨some 5, none, .mv (.k (.sn))⟩])
    (.seq (.ops [⟨some 10, none, .mv (.t 0)⟩,
      ⟨some 11, none, .call (.k (.fn n_spec_l20Open [] [])) [.t 10]⟩,
      ⟨some 6, none, .mv (.t 11)⟩])
    (.seq (.ops [⟨some 12, none, .mv (.t 6)⟩,
      ⟨some 13, none, .call (.k (.fn n_spec_l20Set [] [])) [.t 12, .k (.i .i64 24)]⟩,
      ⟨some 7, none, .mv (.t 13)⟩])
    (.seq (.ops [⟨some 14, none, .mv (.t 6)⟩,
      ⟨some 15, none, .mv (.t 7)⟩,
      ⟨some 16, none, .call (.k (.fn n_spec_l20Jitter [] [])) [.t 14, .t 15, .k (.i .i64 20)]⟩,
      ⟨some 8, none, .mv (.t 16)⟩])
    (.seq (.ops [⟨some 17, none, .mv (.t 6)⟩,
      ⟨some 18, none, .mv (.t 7)⟩,
      ⟨some 19, none, .len (.t 18)⟩,
      ⟨some 20, none, .call (.k (.fn n_spec_l20Order [] [])) [.t 17, .t 19, .k (.i .i64 20)]⟩,
      ⟨some 9, none, .mv (.t 20)⟩])
    (.seq (.seq (.ops [⟨some 21, none, .mv (.t 7)⟩,
      ⟨some 22, none, .call (.k (.fn n_spec_SetValid [] [])) [.t 21]⟩,
      ⟨some 23, none, .not (.t 22)⟩])
    (.cond (.t 23) (.seq (.ops [⟨some 24, none, .mv (.t 7)⟩,
      ⟨some 25, none, .mv (.t 8)⟩,
      ⟨some 26, none, .mv (.t 9)⟩,
      ⟨some 27, none, .bsl ty_impl_Job [.i .i64 0, .i .i64 0, .i .i64 0, .i .i64 0] 0 []⟩,
      ⟨some 2, none, .mv (.t 24)⟩,
      ⟨some 3, none, .mv (.t 25)⟩,
      ⟨some 4, none, .mv (.t 26)⟩,
      ⟨some 5, none, .mv (.t 27)⟩])
    (.ret))
    (.skip)))
    (.seq (.ops [⟨some 28, none, .mv (.t 7)⟩,
      ⟨some 29, none, .mv (.t 8)⟩,
      ⟨some 30, none, .mv (.t 9)⟩,
      ⟨some 31, none, .mv (.t 6)⟩,
      ⟨some 32, none, .mv (.t 7)⟩,
      ⟨some 33, none, .mv (.t 8)⟩,
      ⟨some 34, none, .call (.k (.fn n_spec_l20Late [] [])) [.t 31, .t 32, .t 33, .k (.i .i64 16)]⟩,
      ⟨some 2, none, .mv (.t 28)⟩,
      ⟨some 3, none, .mv (.t 29)⟩,
      ⟨some 4, none, .mv (.t 30)⟩,
      ⟨some 5, none, .mv (.t 34)⟩])
    (.ret)))))))
theorem k_spec_DrawRunJitter : chkF Try.prog Try.f15 35 c_spec_DrawRunJitter [.t 2, .t 3, .t 4, .t 5] = true := by kernel_rfl
theorem call_spec_DrawRunJitter {args : List AV} {σ : List AB} {K : AV → List AB → Prop} (hn : args.length ≤ 35) (hw : wpC Try.prog σ.length 35 c_spec_DrawRunJitter (retP σ.length [.t 2, .t 3, .t 4, .t 5] K) ⟨initT 0 args, σ⟩) : CallWp Try.prog n_spec_DrawRunJitter args σ K := call_fn mixed Try.func15 k_spec_DrawRunJitter hn hw

-- loop.example/deadlinescheduler/impl.RunJitter
def c_impl_RunJitter : LC := .seq (.ops [⟨some 8, none, .alloc ty_impl_Schedule [.sn, .sn]⟩])
    (.seq (.seq (.ops [⟨some 9, none, .mv (.t 0)⟩,
      ⟨some 10, none, .mv (.t 1)⟩,
      ⟨some 11, none, .mv (.t 3)⟩,
      ⟨some 12, none, .call (.k (.fn n_impl_JitterLegal [] [])) [.t 9, .t 10, .t 11]⟩,
      ⟨some 13, none, .not (.t 12)⟩,
      ⟨some 14, none, .mv (.t 13)⟩,
      ⟨some 15, (some (14, false)), .mv (.t 0)⟩,
      ⟨some 16, (some (14, false)), .mv (.t 2)⟩,
      ⟨some 17, (some (14, false)), .call (.k (.fn n_impl_OrderValid [] [])) [.t 15, .t 16]⟩,
      ⟨some 18, (some (14, false)), .not (.t 17)⟩,
      ⟨some 19, none, .pick (.t 14) (.k (.b true)) (.t 18)⟩])
    (.cond (.t 19) (.seq (.ops [⟨some 20, none, .build [.sn, .sn] []⟩,
      ⟨none, none, .st 2 (.t 8) (.t 20)⟩])
    (.ret))
    (.skip)))
    (.seq (.ops [⟨some 21, none, .mv (.t 3)⟩,
      ⟨some 22, none, .mv (.t 2)⟩,
      ⟨some 23, none, .call (.k (.fn n_impl_fixed [] [])) [.t 22]⟩,
      ⟨some 24, none, .call (.k (.fn n_impl_simulate [] [])) [.t 21, .t 23]⟩,
      ⟨none, none, .st 2 (.t 8) (.t 24)⟩])
    (.ret)))
theorem k_impl_RunJitter : chkF Try.prog Try.f16 25 c_impl_RunJitter [.c 8 (some 2)] = true := by kernel_rfl
theorem call_impl_RunJitter {args : List AV} {σ : List AB} {K : AV → List AB → Prop} (hn : args.length ≤ 25) (hw : wpC Try.prog σ.length 25 c_impl_RunJitter (retP σ.length [.c 8 (some 2)] K) ⟨initT 0 args, σ⟩) : CallWp Try.prog n_impl_RunJitter args σ K := call_fn mixed Try.func16 k_impl_RunJitter hn hw

-- loop.example/deadlinescheduler/laws.sameSchedule
def c_laws_sameSchedule : LC := .seq (.ops [⟨some 2, none, .box ty_impl_Schedule (.t 0)⟩,
      ⟨some 3, none, .box ty_impl_Schedule (.t 1)⟩,
      ⟨some 4, none, .mv (.k (.b false))⟩])
    (.seq (.ops [⟨some 5, none, .fa 0 (.t 2)⟩,
      ⟨some 6, none, .ld (.t 5)⟩,
      ⟨some 7, none, .fa 0 (.t 3)⟩,
      ⟨some 8, none, .ld (.t 7)⟩,
      ⟨some 9, none, .call (.k (.fn n_laws_sameInts [] [])) [.t 6, .t 8]⟩,
      ⟨some 10, none, .mv (.t 9)⟩,
      ⟨some 11, (some (10, true)), .fa 1 (.t 2)⟩,
      ⟨some 12, (some (10, true)), .ld (.t 11)⟩,
      ⟨some 13, (some (10, true)), .fa 1 (.t 3)⟩,
      ⟨some 14, (some (10, true)), .ld (.t 13)⟩,
      ⟨some 15, (some (10, true)), .call (.k (.fn n_laws_sameInts [] [])) [.t 12, .t 14]⟩,
      ⟨some 16, none, .pick (.t 10) (.t 15) (.k (.b false))⟩,
      ⟨some 4, none, .mv (.t 16)⟩])
    (.ret))
theorem k_laws_sameSchedule : chkF Try.prog Try.f17 17 c_laws_sameSchedule [.t 4] = true := by kernel_rfl
theorem call_laws_sameSchedule {args : List AV} {σ : List AB} {K : AV → List AB → Prop} (hn : args.length ≤ 17) (hw : wpC Try.prog σ.length 17 c_laws_sameSchedule (retP σ.length [.t 4] K) ⟨initT 0 args, σ⟩) : CallWp Try.prog n_laws_sameSchedule args σ K := call_fn mixed Try.func17 k_laws_sameSchedule hn hw
theorem callC_laws_sameSchedule {args : List AV} {σ : List AB} {K : AV → List AB → Prop} (hn : args.length ≤ 17) (hw : Closed σ → args.all (below1 σ.length) = true → wpC Try.prog σ.length 17 c_laws_sameSchedule (retP σ.length [.t 4] K) ⟨initT 0 args, σ⟩) : CallWp Try.prog n_laws_sameSchedule args σ K := call_fnC mixed Try.func17 k_laws_sameSchedule hn hw

-- loop.example/deadlinescheduler/spec.RunJitter
-- l0_spec_RunJitter: live at the head: 2 3 8 9 10
def l0_spec_RunJitter : LC := .seq (.seq (.ops [⟨some 24, none, .mv (.t 10)⟩,
      ⟨some 25, none, .mv (.t 3)⟩,
      ⟨some 26, none, .len (.t 25)⟩,
      ⟨some 27, none, .bin .lss (.t 24) (.t 26)⟩])
    (.cond (.t 27) (.skip)
    (.exit 0)))
    (.seq (.block 1 (.ops [⟨some 30, none, .mv (.t 9)⟩,
      ⟨some 31, none, .mv (.t 2)⟩,
      ⟨some 32, none, .mv (.t 3)⟩,
      ⟨some 33, none, .mv (.t 10)⟩,
      ⟨some 34, none, .ia 4 (.t 32) (.t 33)⟩,
      ⟨some 35, none, .fa 0 (.t 34)⟩,
      ⟨some 36, none, .ld (.t 35)⟩,
      ⟨some 37, none, .call (.k (.fn n_spec_l4Index [] [])) [.t 31, .t 36]⟩,
      ⟨some 38, none, .bsl ty_int [.i .i64 0] 1 [(0, 1, .t 37)]⟩,
      ⟨some 39, none, .app ty_int 1 8 (.t 30) (.t 38)⟩,
      ⟨some 9, none, .mv (.t 39)⟩]))
    (.ops [⟨some 28, none, .mv (.t 10)⟩,
      ⟨some 29, none, .bin .add (.t 28) (.k (.i .i64 1))⟩,
      ⟨some 10, none, .mv (.t 29)⟩]))
def c_spec_RunJitter : LC := .seq (.ops [⟨some 8, none, .alloc ty_impl_Schedule [.sn, .sn]⟩])
    (.seq (.seq (.ops [⟨some 11, none, .mv (.t 0)⟩,
      ⟨some 12, none, .mv (.t 2)⟩,
      ⟨some 13, none, .call (.k (.fn n_spec_OrderValid [] [])) [.t 11, .t 12]⟩,
      ⟨some 14, none, .not (.t 13)⟩,
      ⟨some 15, none, .mv (.t 14)⟩,
      ⟨some 16, (some (15, false)), .mv (.t 0)⟩,
      ⟨some 17, (some (15, false)), .mv (.t 1)⟩,
      ⟨some 18, (some (15, false)), .mv (.t 3)⟩,
      ⟨some 19, (some (15, false)), .call (.k (.fn n_spec_JitterLegal [] [])) [.t 16, .t 17, .t 18]⟩,
      ⟨some 20, (some (15, false)), .not (.t 19)⟩,
      ⟨some 21, none, .pick (.t 15) (.k (.b true)) (.t 20)⟩])
    (.cond (.t 21) (.seq (.ops [⟨some 22, none, .build [.sn, .sn] []⟩,
      ⟨none, none, .st 2 (.t 8) (.t 22)⟩])
    (.ret))
    (.skip)))
    (.seq (.ops [⟨some 23, none, .bsl ty_int [.i .i64 0] 0 []⟩,
      ⟨some 9, none, .mv (.t 23)⟩])
    (.seq (.seq (.ops [⟨some 10, none, .mv (.k (.i .i64 0))⟩])
    (.block 0 (.loop l0_spec_RunJitter)))
    (.seq (.ops [⟨some 40, none, .mv (.t 3)⟩,
      ⟨some 41, none, .mv (.t 9)⟩,
      ⟨some 42, none, .call (.k (.fn n_spec_l3Run [] [])) [.t 40, .t 41]⟩,
      ⟨none, none, .st 2 (.t 8) (.t 42)⟩])
    (.ret)))))
theorem k_spec_RunJitter : chkF Try.prog Try.f18 43 c_spec_RunJitter [.c 8 (some 2)] = true := by kernel_rfl
theorem call_spec_RunJitter {args : List AV} {σ : List AB} {K : AV → List AB → Prop} (hn : args.length ≤ 43) (hw : wpC Try.prog σ.length 43 c_spec_RunJitter (retP σ.length [.c 8 (some 2)] K) ⟨initT 0 args, σ⟩) : CallWp Try.prog n_spec_RunJitter args σ K := call_fn mixed Try.func18 k_spec_RunJitter hn hw

-- loop.example/deadlinescheduler/laws.alive
def c_laws_alive : LC := .seq (.ops [⟨some 0, none, .mv (.k (.b false))⟩])
    (.seq (.ops [⟨some 1, none, .build [.i .i64 0, .i .i64 0, .i .i64 0] [(0, 1, .k (.i .i64 1)), (1, 1, .k (.i .i64 1)), (2, 1, .k (.i .i64 1))]⟩,
      ⟨some 2, none, .call (.k (.fn n_impl_TaskValid [] [])) [.t 1]⟩,
      ⟨some 0, none, .mv (.t 2)⟩])
    (.ret))
theorem k_laws_alive : chkF Try.prog Try.f19 3 c_laws_alive [.t 0] = true := by kernel_rfl
theorem call_laws_alive {args : List AV} {σ : List AB} {K : AV → List AB → Prop} (hn : args.length ≤ 3) (hw : wpC Try.prog σ.length 3 c_laws_alive (retP σ.length [.t 0] K) ⟨initT 0 args, σ⟩) : CallWp Try.prog n_laws_alive args σ K := call_fn mixed Try.func19 k_laws_alive hn hw

-- loop.example/deadlinescheduler/impl.JitterResponse
def c_impl_JitterResponse : LC := .seq (.ops [⟨some 6, none, .mv (.k (.sn))⟩])
    (.seq (.seq (.ops [⟨some 7, none, .mv (.t 0)⟩,
      ⟨some 8, none, .mv (.t 1)⟩,
      ⟨some 9, none, .call (.k (.fn n_impl_JitterValid [] [])) [.t 7, .t 8]⟩,
      ⟨some 10, none, .not (.t 9)⟩,
      ⟨some 11, none, .mv (.t 10)⟩,
      ⟨some 12, (some (11, false)), .mv (.t 0)⟩,
      ⟨some 13, (some (11, false)), .mv (.t 2)⟩,
      ⟨some 14, (some (11, false)), .call (.k (.fn n_impl_OrderValid [] [])) [.t 12, .t 13]⟩,
      ⟨some 15, (some (11, false)), .not (.t 14)⟩,
      ⟨some 16, none, .pick (.t 11) (.k (.b true)) (.t 15)⟩])
    (.cond (.t 16) (.seq (.ops [⟨some 6, none, .mv (.k (.sn))⟩])
    (.ret))
    (.skip)))
    (.seq (.ops [⟨some 17, none, .mv (.t 0)⟩,
      ⟨some 18, none, .mv (.t 1)⟩,
      ⟨some 19, none, .mv (.t 2)⟩,
      ⟨some 20, none, .call (.k (.fn n_impl_responses [] [])) [.t 17, .t 18, .t 19]⟩,
      ⟨some 6, none, .mv (.t 20)⟩])
    (.ret)))
theorem k_impl_JitterResponse : chkF Try.prog Try.f20 21 c_impl_JitterResponse [.t 6] = true := by kernel_rfl
theorem call_impl_JitterResponse {args : List AV} {σ : List AB} {K : AV → List AB → Prop} (hn : args.length ≤ 21) (hw : wpC Try.prog σ.length 21 c_impl_JitterResponse (retP σ.length [.t 6] K) ⟨initT 0 args, σ⟩) : CallWp Try.prog n_impl_JitterResponse args σ K := call_fn mixed Try.func20 k_impl_JitterResponse hn hw

-- loop.example/deadlinescheduler/impl.Missed
def c_impl_Missed : LC := .seq (.ops [⟨some 3, none, .box ty_impl_Schedule (.t 1)⟩,
      ⟨some 4, none, .mv (.k (.sn))⟩])
    (.seq (.ops [⟨some 5, none, .mv (.t 0)⟩,
      ⟨some 6, none, .fa 1 (.t 3)⟩,
      ⟨some 7, none, .ld (.t 6)⟩,
      ⟨some 8, none, .call (.k (.fn n_impl_missed [] [])) [.t 5, .t 7]⟩,
      ⟨some 4, none, .mv (.t 8)⟩])
    (.ret))
theorem k_impl_Missed : chkF Try.prog Try.f21 9 c_impl_Missed [.t 4] = true := by kernel_rfl
theorem call_impl_Missed {args : List AV} {σ : List AB} {K : AV → List AB → Prop} (hn : args.length ≤ 9) (hw : wpC Try.prog σ.length 9 c_impl_Missed (retP σ.length [.t 4] K) ⟨initT 0 args, σ⟩) : CallWp Try.prog n_impl_Missed args σ K := call_fn mixed Try.func21 k_impl_Missed hn hw
theorem callC_impl_Missed {args : List AV} {σ : List AB} {K : AV → List AB → Prop} (hn : args.length ≤ 9) (hw : Closed σ → args.all (below1 σ.length) = true → wpC Try.prog σ.length 9 c_impl_Missed (retP σ.length [.t 4] K) ⟨initT 0 args, σ⟩) : CallWp Try.prog n_impl_Missed args σ K := call_fnC mixed Try.func21 k_impl_Missed hn hw

-- loop.example/deadlinescheduler/spec.DrawJitterResponse
def c_spec_DrawJitterResponse : LC := .seq (.ops [⟨some 2, none, .mv (.k (.sn))⟩,
      ⟨some 3, none, .mv (.k (.sn))⟩,
      ⟨some 4, none, .mv (.k (.sn))⟩])
    (.seq (.ops [⟨some 7, none, .mv (.t 0)⟩,
      ⟨some 8, none, .call (.k (.fn n_spec_l20Open [] [])) [.t 7]⟩,
      ⟨some 5, none, .mv (.t 8)⟩])
    (.seq (.ops [⟨some 9, none, .mv (.t 5)⟩,
      ⟨some 10, none, .call (.k (.fn n_spec_l20Set [] [])) [.t 9, .k (.i .i64 20)]⟩,
      ⟨some 6, none, .mv (.t 10)⟩])
    (.seq (.ops [⟨some 11, none, .mv (.t 6)⟩,
      ⟨some 12, none, .mv (.t 5)⟩,
      ⟨some 13, none, .mv (.t 6)⟩,
      ⟨some 14, none, .call (.k (.fn n_spec_l20Jitter [] [])) [.t 12, .t 13, .k (.i .i64 16)]⟩,
      ⟨some 15, none, .mv (.t 5)⟩,
      ⟨some 16, none, .mv (.t 6)⟩,
      ⟨some 17, none, .len (.t 16)⟩,
      ⟨some 18, none, .call (.k (.fn n_spec_l20Order [] [])) [.t 15, .t 17, .k (.i .i64 16)]⟩,
      ⟨some 2, none, .mv (.t 11)⟩,
      ⟨some 3, none, .mv (.t 14)⟩,
      ⟨some 4, none, .mv (.t 18)⟩])
    (.ret))))
theorem k_spec_DrawJitterResponse : chkF Try.prog Try.f22 19 c_spec_DrawJitterResponse [.t 2, .t 3, .t 4] = true := by kernel_rfl
theorem call_spec_DrawJitterResponse {args : List AV} {σ : List AB} {K : AV → List AB → Prop} (hn : args.length ≤ 19) (hw : wpC Try.prog σ.length 19 c_spec_DrawJitterResponse (retP σ.length [.t 2, .t 3, .t 4] K) ⟨initT 0 args, σ⟩) : CallWp Try.prog n_spec_DrawJitterResponse args σ K := call_fn mixed Try.func22 k_spec_DrawJitterResponse hn hw

-- loop.example/deadlinescheduler/laws.sameInts
-- region 6 draws, 9 of 9 first
-- l0_laws_sameInts: live at the head: 0 1 5
def l0_laws_sameInts : LC := .seq (.seq (.ops [⟨some 11, none, .mv (.t 5)⟩,
      ⟨some 12, none, .mv (.t 0)⟩,
      ⟨some 13, none, .len (.t 12)⟩,
      ⟨some 14, none, .bin .lss (.t 11) (.t 13)⟩])
    (.cond (.t 14) (.skip)
    (.exit 0)))
    (.seq (.block 1 (.seq (.draw 9 [⟨some 17, none, .mv (.t 0)⟩,
      ⟨some 18, none, .mv (.t 5)⟩,
      ⟨some 19, none, .ia 1 (.t 17) (.t 18)⟩,
      ⟨some 20, none, .ld (.t 19)⟩,
      ⟨some 21, none, .mv (.t 1)⟩,
      ⟨some 22, none, .mv (.t 5)⟩,
      ⟨some 23, none, .ia 1 (.t 21) (.t 22)⟩,
      ⟨some 24, none, .ld (.t 23)⟩,
      ⟨some 25, none, .bin .neq (.t 20) (.t 24)⟩])
    (.cond (.t 25) (.seq (.ops [⟨some 4, none, .mv (.k (.b false))⟩])
    (.ret))
    (.skip))))
    (.ops [⟨some 15, none, .mv (.t 5)⟩,
      ⟨some 16, none, .bin .add (.t 15) (.k (.i .i64 1))⟩,
      ⟨some 5, none, .mv (.t 16)⟩]))
def c_laws_sameInts : LC := .seq (.ops [⟨some 4, none, .mv (.k (.b false))⟩])
    (.seq (.seq (.ops [⟨some 6, none, .mv (.t 0)⟩,
      ⟨some 7, none, .len (.t 6)⟩,
      ⟨some 8, none, .mv (.t 1)⟩,
      ⟨some 9, none, .len (.t 8)⟩,
      ⟨some 10, none, .bin .neq (.t 7) (.t 9)⟩])
    (.cond (.t 10) (.seq (.ops [⟨some 4, none, .mv (.k (.b false))⟩])
    (.ret))
    (.skip)))
    (.seq (.seq (.ops [⟨some 5, none, .mv (.k (.i .i64 0))⟩])
    (.block 0 (.loop l0_laws_sameInts)))
    (.seq (.ops [⟨some 4, none, .mv (.k (.b true))⟩])
    (.ret))))
theorem k_laws_sameInts : chkF Try.prog Try.f23 26 c_laws_sameInts [.t 4] = true := by kernel_rfl
theorem call_laws_sameInts {args : List AV} {σ : List AB} {K : AV → List AB → Prop} (hn : args.length ≤ 26) (hw : wpC Try.prog σ.length 26 c_laws_sameInts (retP σ.length [.t 4] K) ⟨initT 0 args, σ⟩) : CallWp Try.prog n_laws_sameInts args σ K := call_fn mixed Try.func23 k_laws_sameInts hn hw

-- loop.example/deadlinescheduler/spec.JitterResponse
-- region 7: a plan with 1 orders
-- l0_spec_JitterResponse: live at the head: 0 1 2 7 8
def l0_spec_JitterResponse : LC := .seq (.seq (.ops [⟨some 23, none, .mv (.t 8)⟩,
      ⟨some 24, none, .mv (.t 2)⟩,
      ⟨some 25, none, .len (.t 24)⟩,
      ⟨some 26, none, .bin .lss (.t 23) (.t 25)⟩])
    (.cond (.t 26) (.skip)
    (.exit 0)))
    (.seq (.block 1 (.plan [0, 1, 2, 3, 4, 5, 6, 7, 8, 9, 10, 11, 12, 13] [⟨some 29, none, .mv (.t 7)⟩,
      ⟨some 30, none, .mv (.t 2)⟩,
      ⟨some 31, none, .mv (.t 8)⟩,
      ⟨some 32, none, .ia 1 (.t 30) (.t 31)⟩,
      ⟨some 33, none, .ld (.t 32)⟩,
      ⟨some 34, none, .mv (.t 0)⟩,
      ⟨some 35, none, .mv (.t 1)⟩,
      ⟨some 36, none, .mv (.t 2)⟩,
      ⟨some 37, none, .mv (.t 8)⟩,
      ⟨some 38, none, .slc 1 (.t 36) none (some (.t 37)) none⟩,
      ⟨some 39, none, .mv (.t 2)⟩,
      ⟨some 40, none, .mv (.t 8)⟩,
      ⟨some 41, none, .ia 1 (.t 39) (.t 40)⟩,
      ⟨some 42, none, .ld (.t 41)⟩]
      (.one 14 ⟨some 43, none, .call (.k (.fn n_spec_l16Response [] [])) [.t 34, .t 35, .t 38, .t 42]⟩ [(33, none, 32)] [15]
        [⟨some 44, none, .ia 1 (.t 29) (.t 33)⟩]
      (.one 16 ⟨none, none, .st 1 (.t 44) (.t 43)⟩ [] []
        []
      .fin))))
    (.ops [⟨some 27, none, .mv (.t 8)⟩,
      ⟨some 28, none, .bin .add (.t 27) (.k (.i .i64 1))⟩,
      ⟨some 8, none, .mv (.t 28)⟩]))
def c_spec_JitterResponse : LC := .seq (.ops [⟨some 6, none, .mv (.k (.sn))⟩])
    (.seq (.seq (.ops [⟨some 9, none, .mv (.t 0)⟩,
      ⟨some 10, none, .mv (.t 1)⟩,
      ⟨some 11, none, .call (.k (.fn n_spec_JitterValid [] [])) [.t 9, .t 10]⟩,
      ⟨some 12, none, .not (.t 11)⟩,
      ⟨some 13, none, .mv (.t 12)⟩,
      ⟨some 14, (some (13, false)), .mv (.t 0)⟩,
      ⟨some 15, (some (13, false)), .mv (.t 2)⟩,
      ⟨some 16, (some (13, false)), .call (.k (.fn n_spec_OrderValid [] [])) [.t 14, .t 15]⟩,
      ⟨some 17, (some (13, false)), .not (.t 16)⟩,
      ⟨some 18, none, .pick (.t 13) (.k (.b true)) (.t 17)⟩])
    (.cond (.t 18) (.seq (.ops [⟨some 19, none, .bsl ty_int [.i .i64 0] 0 []⟩,
      ⟨some 6, none, .mv (.t 19)⟩])
    (.ret))
    (.skip)))
    (.seq (.ops [⟨some 20, none, .mv (.t 0)⟩,
      ⟨some 21, none, .len (.t 20)⟩,
      ⟨some 22, none, .msl ty_int 8 [.i .i64 0] (.t 21)⟩,
      ⟨some 7, none, .mv (.t 22)⟩])
    (.seq (.seq (.ops [⟨some 8, none, .mv (.k (.i .i64 0))⟩])
    (.block 0 (.loop l0_spec_JitterResponse)))
    (.seq (.ops [⟨some 45, none, .mv (.t 7)⟩,
      ⟨some 6, none, .mv (.t 45)⟩])
    (.ret)))))
theorem k_spec_JitterResponse : chkF Try.prog Try.f24 46 c_spec_JitterResponse [.t 6] = true := by kernel_rfl
theorem call_spec_JitterResponse {args : List AV} {σ : List AB} {K : AV → List AB → Prop} (hn : args.length ≤ 46) (hw : wpC Try.prog σ.length 46 c_spec_JitterResponse (retP σ.length [.t 6] K) ⟨initT 0 args, σ⟩) : CallWp Try.prog n_spec_JitterResponse args σ K := call_fn mixed Try.func24 k_spec_JitterResponse hn hw

-- loop.example/deadlinescheduler/impl.Synchronous
-- l1_impl_Synchronous: live at the head: 0 1 5 6 35 36 37 38 39 40 43 44 45
-- l0_impl_Synchronous: live at the head: 0 1 5 6 22 23 24 35 36 37 38 39 40 43 44 45
def l0_impl_Synchronous : LC := .seq (.ops [⟨some 25, none, .bin .lss (.t 24) (.t 23)⟩])
    (.seq (.cond (.t 25) (.skip)
    (.exit 2))
    (.seq (.block 3 (.seq (.ops [⟨some 26, none, .mv (.t 24)⟩,
      ⟨some 27, none, .ia 3 (.t 22) (.t 24)⟩,
      ⟨some 28, none, .ldn 3 (.t 27)⟩,
      ⟨some 8, none, .alloc ty_impl_Task [.i .i64 0, .i .i64 0, .i .i64 0]⟩,
      ⟨some 7, none, .mv (.t 26)⟩,
      ⟨none, none, .st 3 (.t 8) (.t 28)⟩])
    (.seq (.ops [⟨some 29, none, .mv (.t 6)⟩,
      ⟨some 30, none, .fa 2 (.t 8)⟩,
      ⟨some 31, none, .ld (.t 30)⟩,
      ⟨some 32, none, .bin .rem (.t 29) (.t 31)⟩,
      ⟨some 33, none, .bin .eql (.t 32) (.k (.i .i64 0))⟩,
      ⟨some 34, none, .mv (.t 33)⟩,
      ⟨some 35, (some (34, true)), .mv (.t 6)⟩,
      ⟨some 36, (some (34, true)), .fa 1 (.t 8)⟩,
      ⟨some 37, (some (34, true)), .ld (.t 36)⟩,
      ⟨some 38, (some (34, true)), .bin .add (.t 35) (.t 37)⟩,
      ⟨some 39, (some (34, true)), .mv (.t 1)⟩,
      ⟨some 40, (some (34, true)), .bin .leq (.t 38) (.t 39)⟩,
      ⟨some 41, none, .pick (.t 34) (.t 40) (.k (.b false))⟩,
      ⟨some 42, none, .mv (.t 41)⟩,
      ⟨some 43, (some (42, true)), .mv (.t 5)⟩,
      ⟨some 44, (some (42, true)), .len (.t 43)⟩,
      ⟨some 45, (some (42, true)), .bin .lss (.t 44) (.k (.i .i64 60))⟩,
      ⟨some 46, none, .pick (.t 42) (.t 45) (.k (.b false))⟩])
    (.cond (.t 46) (.ops [⟨some 47, none, .mv (.t 5)⟩,
      ⟨some 48, none, .mv (.t 7)⟩,
      ⟨some 49, none, .mv (.t 6)⟩,
      ⟨some 50, none, .mv (.t 6)⟩,
      ⟨some 51, none, .fa 1 (.t 8)⟩,
      ⟨some 52, none, .ld (.t 51)⟩,
      ⟨some 53, none, .bin .add (.t 50) (.t 52)⟩,
      ⟨some 54, none, .fa 0 (.t 8)⟩,
      ⟨some 55, none, .ld (.t 54)⟩,
      ⟨some 56, none, .build [.i .i64 0, .i .i64 0, .i .i64 0, .i .i64 0] [(0, 1, .t 48), (1, 1, .t 49), (2, 1, .t 53), (3, 1, .t 55)]⟩,
      ⟨some 57, none, .bsl ty_impl_Job [.i .i64 0, .i .i64 0, .i .i64 0, .i .i64 0] 1 [(0, 4, .t 56)]⟩,
      ⟨some 58, none, .app ty_impl_Job 4 32 (.t 47) (.t 57)⟩,
      ⟨some 5, none, .mv (.t 58)⟩])
    (.skip)))))
    (.ops [⟨some 59, none, .bin .add (.t 24) (.k (.i .i64 1))⟩,
      ⟨some 24, none, .mv (.t 59)⟩])))
def l1_impl_Synchronous : LC := .seq (.seq (.ops [⟨some 17, none, .mv (.t 6)⟩,
      ⟨some 18, none, .mv (.t 1)⟩,
      ⟨some 19, none, .bin .lss (.t 17) (.t 18)⟩])
    (.cond (.t 19) (.skip)
    (.exit 0)))
    (.seq (.block 1 (.seq (.ops [⟨some 22, none, .mv (.t 0)⟩,
      ⟨some 23, none, .len (.t 22)⟩,
      ⟨some 24, none, .mv (.k (.i .i64 0))⟩])
    (.block 2 (.loop l0_impl_Synchronous))))
    (.ops [⟨some 20, none, .mv (.t 6)⟩,
      ⟨some 21, none, .bin .add (.t 20) (.k (.i .i64 1))⟩,
      ⟨some 6, none, .mv (.t 21)⟩]))
def c_impl_Synchronous : LC := .seq (.ops [⟨some 4, none, .mv (.k (.sn))⟩])
    (.seq (.seq (.ops [⟨some 9, none, .mv (.t 0)⟩,
      ⟨some 10, none, .call (.k (.fn n_impl_SetValid [] [])) [.t 9]⟩,
      ⟨some 11, none, .not (.t 10)⟩,
      ⟨some 12, none, .mv (.t 11)⟩,
      ⟨some 13, (some (12, false)), .mv (.t 1)⟩,
      ⟨some 14, (some (12, false)), .call (.k (.fn n_impl_in [] [])) [.t 13, .k (.i .i64 0), .k (.i .i64 120)]⟩,
      ⟨some 15, (some (12, false)), .not (.t 14)⟩,
      ⟨some 16, none, .pick (.t 12) (.k (.b true)) (.t 15)⟩])
    (.cond (.t 16) (.seq (.ops [⟨some 4, none, .mv (.k (.sn))⟩])
    (.ret))
    (.skip)))
    (.seq (.ops [⟨some 5, none, .mv (.k (.sn))⟩])
    (.seq (.seq (.ops [⟨some 6, none, .mv (.k (.i .i64 0))⟩])
    (.block 0 (.loop l1_impl_Synchronous)))
    (.seq (.ops [⟨some 60, none, .mv (.t 5)⟩,
      ⟨some 61, none, .call (.k (.fn n_slices_Clip_impl_Job [] [])) [.t 60]⟩,
      ⟨some 4, none, .mv (.t 61)⟩])
    (.ret)))))
theorem k_impl_Synchronous : chkF Try.prog Try.f25 62 c_impl_Synchronous [.t 4] = true := by kernel_rfl
theorem call_impl_Synchronous {args : List AV} {σ : List AB} {K : AV → List AB → Prop} (hn : args.length ≤ 62) (hw : wpC Try.prog σ.length 62 c_impl_Synchronous (retP σ.length [.t 4] K) ⟨initT 0 args, σ⟩) : CallWp Try.prog n_impl_Synchronous args σ K := call_fn mixed Try.func25 k_impl_Synchronous hn hw

-- loop.example/deadlinescheduler/impl.RunFixed
def c_impl_RunFixed : LC := .seq (.ops [⟨some 6, none, .alloc ty_impl_Schedule [.sn, .sn]⟩])
    (.seq (.seq (.ops [⟨some 7, none, .mv (.t 0)⟩,
      ⟨some 8, none, .mv (.t 1)⟩,
      ⟨some 9, none, .call (.k (.fn n_impl_OrderValid [] [])) [.t 7, .t 8]⟩,
      ⟨some 10, none, .not (.t 9)⟩,
      ⟨some 11, none, .mv (.t 10)⟩,
      ⟨some 12, (some (11, false)), .mv (.t 0)⟩,
      ⟨some 13, (some (11, false)), .mv (.t 2)⟩,
      ⟨some 14, (some (11, false)), .call (.k (.fn n_impl_JobsLegal [] [])) [.t 12, .t 13]⟩,
      ⟨some 15, (some (11, false)), .not (.t 14)⟩,
      ⟨some 16, none, .pick (.t 11) (.k (.b true)) (.t 15)⟩])
    (.cond (.t 16) (.seq (.ops [⟨some 17, none, .build [.sn, .sn] []⟩,
      ⟨none, none, .st 2 (.t 6) (.t 17)⟩])
    (.ret))
    (.skip)))
    (.seq (.ops [⟨some 18, none, .mv (.t 2)⟩,
      ⟨some 19, none, .mv (.t 1)⟩,
      ⟨some 20, none, .call (.k (.fn n_impl_fixed [] [])) [.t 19]⟩,
      ⟨some 21, none, .call (.k (.fn n_impl_simulate [] [])) [.t 18, .t 20]⟩,
      ⟨none, none, .st 2 (.t 6) (.t 21)⟩])
    (.ret)))
theorem k_impl_RunFixed : chkF Try.prog Try.f26 22 c_impl_RunFixed [.c 6 (some 2)] = true := by kernel_rfl
theorem call_impl_RunFixed {args : List AV} {σ : List AB} {K : AV → List AB → Prop} (hn : args.length ≤ 22) (hw : wpC Try.prog σ.length 22 c_impl_RunFixed (retP σ.length [.c 6 (some 2)] K) ⟨initT 0 args, σ⟩) : CallWp Try.prog n_impl_RunFixed args σ K := call_fn mixed Try.func26 k_impl_RunFixed hn hw

-- loop.example/deadlinescheduler/laws.szTaskS
def c_laws_szTaskS : LC := .seq (.ops [⟨some 4, none, .mv (.k (.i .i64 0))⟩])
    (.seq (.ops [⟨some 5, none, .mv (.t 1)⟩,
      ⟨some 6, none, .mv (.t 0)⟩,
      ⟨some 7, none, .len (.t 6)⟩,
      ⟨some 8, none, .bin .sub (.t 5) (.t 7)⟩,
      ⟨some 1, none, .mv (.t 8)⟩])
    (.seq (.seq (.ops [⟨some 9, none, .mv (.t 1)⟩,
      ⟨some 10, none, .bin .lss (.t 9) (.k (.i .i64 0))⟩])
    (.cond (.t 10) (.seq (.ops [⟨some 4, none, .mv (.k (.i .i64 (-1)))⟩])
    (.ret))
    (.skip)))
    (.seq (.ops [⟨some 11, none, .mv (.t 1)⟩,
      ⟨some 4, none, .mv (.t 11)⟩])
    (.ret))))
theorem k_laws_szTaskS : chkF Try.prog Try.f27 12 c_laws_szTaskS [.t 4] = true := by kernel_rfl
theorem call_laws_szTaskS {args : List AV} {σ : List AB} {K : AV → List AB → Prop} (hn : args.length ≤ 12) (hw : wpC Try.prog σ.length 12 c_laws_szTaskS (retP σ.length [.t 4] K) ⟨initT 0 args, σ⟩) : CallWp Try.prog n_laws_szTaskS args σ K := call_fn mixed Try.func27 k_laws_szTaskS hn hw

-- loop.example/deadlinescheduler/laws.szJobS
def c_laws_szJobS : LC := .seq (.ops [⟨some 4, none, .mv (.k (.i .i64 0))⟩])
    (.seq (.ops [⟨some 5, none, .mv (.t 1)⟩,
      ⟨some 6, none, .mv (.t 0)⟩,
      ⟨some 7, none, .len (.t 6)⟩,
      ⟨some 8, none, .bin .sub (.t 5) (.t 7)⟩,
      ⟨some 1, none, .mv (.t 8)⟩])
    (.seq (.seq (.ops [⟨some 9, none, .mv (.t 1)⟩,
      ⟨some 10, none, .bin .lss (.t 9) (.k (.i .i64 0))⟩])
    (.cond (.t 10) (.seq (.ops [⟨some 4, none, .mv (.k (.i .i64 (-1)))⟩])
    (.ret))
    (.skip)))
    (.seq (.ops [⟨some 11, none, .mv (.t 1)⟩,
      ⟨some 4, none, .mv (.t 11)⟩])
    (.ret))))
theorem k_laws_szJobS : chkF Try.prog Try.f28 12 c_laws_szJobS [.t 4] = true := by kernel_rfl
theorem call_laws_szJobS {args : List AV} {σ : List AB} {K : AV → List AB → Prop} (hn : args.length ≤ 12) (hw : wpC Try.prog σ.length 12 c_laws_szJobS (retP σ.length [.t 4] K) ⟨initT 0 args, σ⟩) : CallWp Try.prog n_laws_szJobS args σ K := call_fn mixed Try.func28 k_laws_szJobS hn hw

-- loop.example/deadlinescheduler/laws.toTaskS
-- l0_laws_toTaskS: live at the head: 0 3 4
def l0_laws_toTaskS : LC := .seq (.seq (.ops [⟨some 8, none, .mv (.t 4)⟩,
      ⟨some 9, none, .mv (.t 0)⟩,
      ⟨some 10, none, .len (.t 9)⟩,
      ⟨some 11, none, .bin .lss (.t 8) (.t 10)⟩])
    (.cond (.t 11) (.skip)
    (.exit 0)))
    (.seq (.block 1 (.ops [⟨some 14, none, .mv (.t 3)⟩,
      ⟨some 15, none, .mv (.t 4)⟩,
      ⟨some 16, none, .mv (.t 0)⟩,
      ⟨some 17, none, .mv (.t 4)⟩,
      ⟨some 18, none, .ia 3 (.t 16) (.t 17)⟩,
      ⟨some 19, none, .ldn 3 (.t 18)⟩,
      ⟨some 20, none, .call (.k (.fn n_laws_toTask [] [])) [.t 19]⟩,
      ⟨some 21, none, .ia 3 (.t 14) (.t 15)⟩,
      ⟨none, none, .st 3 (.t 21) (.t 20)⟩]))
    (.ops [⟨some 12, none, .mv (.t 4)⟩,
      ⟨some 13, none, .bin .add (.t 12) (.k (.i .i64 1))⟩,
      ⟨some 4, none, .mv (.t 13)⟩]))
def c_laws_toTaskS : LC := .seq (.ops [⟨some 2, none, .mv (.k (.sn))⟩])
    (.seq (.ops [⟨some 5, none, .mv (.t 0)⟩,
      ⟨some 6, none, .len (.t 5)⟩,
      ⟨some 7, none, .msl ty_impl_Task 24 [.i .i64 0, .i .i64 0, .i .i64 0] (.t 6)⟩,
      ⟨some 3, none, .mv (.t 7)⟩])
    (.seq (.seq (.ops [⟨some 4, none, .mv (.k (.i .i64 0))⟩])
    (.block 0 (.loop l0_laws_toTaskS)))
    (.seq (.ops [⟨some 22, none, .mv (.t 3)⟩,
      ⟨some 2, none, .mv (.t 22)⟩])
    (.ret))))
theorem k_laws_toTaskS : chkF Try.prog Try.f29 23 c_laws_toTaskS [.t 2] = true := by kernel_rfl
theorem call_laws_toTaskS {args : List AV} {σ : List AB} {K : AV → List AB → Prop} (hn : args.length ≤ 23) (hw : wpC Try.prog σ.length 23 c_laws_toTaskS (retP σ.length [.t 2] K) ⟨initT 0 args, σ⟩) : CallWp Try.prog n_laws_toTaskS args σ K := call_fn mixed Try.func29 k_laws_toTaskS hn hw

-- loop.example/deadlinescheduler/laws.toIntS
-- l0_laws_toIntS: live at the head: 0 3 4
def l0_laws_toIntS : LC := .seq (.seq (.ops [⟨some 8, none, .mv (.t 4)⟩,
      ⟨some 9, none, .mv (.t 0)⟩,
      ⟨some 10, none, .len (.t 9)⟩,
      ⟨some 11, none, .bin .lss (.t 8) (.t 10)⟩])
    (.cond (.t 11) (.skip)
    (.exit 0)))
    (.seq (.block 1 (.ops [⟨some 14, none, .mv (.t 3)⟩,
      ⟨some 15, none, .mv (.t 4)⟩,
      ⟨some 16, none, .mv (.t 0)⟩,
      ⟨some 17, none, .mv (.t 4)⟩,
      ⟨some 18, none, .ia 1 (.t 16) (.t 17)⟩,
      ⟨some 19, none, .ld (.t 18)⟩,
      ⟨some 20, none, .ia 1 (.t 14) (.t 15)⟩,
      ⟨none, none, .st 1 (.t 20) (.t 19)⟩]))
    (.ops [⟨some 12, none, .mv (.t 4)⟩,
      ⟨some 13, none, .bin .add (.t 12) (.k (.i .i64 1))⟩,
      ⟨some 4, none, .mv (.t 13)⟩]))
def c_laws_toIntS : LC := .seq (.ops [⟨some 2, none, .mv (.k (.sn))⟩])
    (.seq (.ops [⟨some 5, none, .mv (.t 0)⟩,
      ⟨some 6, none, .len (.t 5)⟩,
      ⟨some 7, none, .msl ty_int 8 [.i .i64 0] (.t 6)⟩,
      ⟨some 3, none, .mv (.t 7)⟩])
    (.seq (.seq (.ops [⟨some 4, none, .mv (.k (.i .i64 0))⟩])
    (.block 0 (.loop l0_laws_toIntS)))
    (.seq (.ops [⟨some 21, none, .mv (.t 3)⟩,
      ⟨some 2, none, .mv (.t 21)⟩])
    (.ret))))
theorem k_laws_toIntS : chkF Try.prog Try.f30 22 c_laws_toIntS [.t 2] = true := by kernel_rfl
theorem call_laws_toIntS {args : List AV} {σ : List AB} {K : AV → List AB → Prop} (hn : args.length ≤ 22) (hw : wpC Try.prog σ.length 22 c_laws_toIntS (retP σ.length [.t 2] K) ⟨initT 0 args, σ⟩) : CallWp Try.prog n_laws_toIntS args σ K := call_fn mixed Try.func30 k_laws_toIntS hn hw

-- loop.example/deadlinescheduler/laws.toJobS
-- l0_laws_toJobS: live at the head: 0 3 4
def l0_laws_toJobS : LC := .seq (.seq (.ops [⟨some 8, none, .mv (.t 4)⟩,
      ⟨some 9, none, .mv (.t 0)⟩,
      ⟨some 10, none, .len (.t 9)⟩,
      ⟨some 11, none, .bin .lss (.t 8) (.t 10)⟩])
    (.cond (.t 11) (.skip)
    (.exit 0)))
    (.seq (.block 1 (.ops [⟨some 14, none, .mv (.t 3)⟩,
      ⟨some 15, none, .mv (.t 4)⟩,
      ⟨some 16, none, .mv (.t 0)⟩,
      ⟨some 17, none, .mv (.t 4)⟩,
      ⟨some 18, none, .ia 4 (.t 16) (.t 17)⟩,
      ⟨some 19, none, .ldn 4 (.t 18)⟩,
      ⟨some 20, none, .call (.k (.fn n_laws_toJob [] [])) [.t 19]⟩,
      ⟨some 21, none, .ia 4 (.t 14) (.t 15)⟩,
      ⟨none, none, .st 4 (.t 21) (.t 20)⟩]))
    (.ops [⟨some 12, none, .mv (.t 4)⟩,
      ⟨some 13, none, .bin .add (.t 12) (.k (.i .i64 1))⟩,
      ⟨some 4, none, .mv (.t 13)⟩]))
def c_laws_toJobS : LC := .seq (.ops [⟨some 2, none, .mv (.k (.sn))⟩])
    (.seq (.ops [⟨some 5, none, .mv (.t 0)⟩,
      ⟨some 6, none, .len (.t 5)⟩,
      ⟨some 7, none, .msl ty_impl_Job 32 [.i .i64 0, .i .i64 0, .i .i64 0, .i .i64 0] (.t 6)⟩,
      ⟨some 3, none, .mv (.t 7)⟩])
    (.seq (.seq (.ops [⟨some 4, none, .mv (.k (.i .i64 0))⟩])
    (.block 0 (.loop l0_laws_toJobS)))
    (.seq (.ops [⟨some 22, none, .mv (.t 3)⟩,
      ⟨some 2, none, .mv (.t 22)⟩])
    (.ret))))
theorem k_laws_toJobS : chkF Try.prog Try.f31 23 c_laws_toJobS [.t 2] = true := by kernel_rfl
theorem call_laws_toJobS {args : List AV} {σ : List AB} {K : AV → List AB → Prop} (hn : args.length ≤ 23) (hw : wpC Try.prog σ.length 23 c_laws_toJobS (retP σ.length [.t 2] K) ⟨initT 0 args, σ⟩) : CallWp Try.prog n_laws_toJobS args σ K := call_fn mixed Try.func31 k_laws_toJobS hn hw

-- loop.example/deadlinescheduler/laws.eqSchedule
def c_laws_eqSchedule : LC := .seq (.ops [⟨some 2, none, .box ty_impl_Schedule (.t 0)⟩,
      ⟨some 3, none, .box ty_impl_Schedule (.t 1)⟩,
      ⟨some 4, none, .mv (.k (.b false))⟩])
    (.seq (.seq (.ops [⟨some 5, none, .fa 0 (.t 2)⟩,
      ⟨some 6, none, .ld (.t 5)⟩,
      ⟨some 7, none, .fa 0 (.t 3)⟩,
      ⟨some 8, none, .ld (.t 7)⟩,
      ⟨some 9, none, .call (.k (.fn n_laws_eqIntS [] [])) [.t 6, .t 8]⟩,
      ⟨some 10, none, .not (.t 9)⟩])
    (.cond (.t 10) (.seq (.ops [⟨some 4, none, .mv (.k (.b false))⟩])
    (.ret))
    (.skip)))
    (.seq (.seq (.ops [⟨some 11, none, .fa 1 (.t 2)⟩,
      ⟨some 12, none, .ld (.t 11)⟩,
      ⟨some 13, none, .fa 1 (.t 3)⟩,
      ⟨some 14, none, .ld (.t 13)⟩,
      ⟨some 15, none, .call (.k (.fn n_laws_eqIntS [] [])) [.t 12, .t 14]⟩,
      ⟨some 16, none, .not (.t 15)⟩])
    (.cond (.t 16) (.seq (.ops [⟨some 4, none, .mv (.k (.b false))⟩])
    (.ret))
    (.skip)))
    (.seq (.ops [⟨some 4, none, .mv (.k (.b true))⟩])
    (.ret))))
theorem k_laws_eqSchedule : chkF Try.prog Try.f32 17 c_laws_eqSchedule [.t 4] = true := by kernel_rfl
theorem call_laws_eqSchedule {args : List AV} {σ : List AB} {K : AV → List AB → Prop} (hn : args.length ≤ 17) (hw : wpC Try.prog σ.length 17 c_laws_eqSchedule (retP σ.length [.t 4] K) ⟨initT 0 args, σ⟩) : CallWp Try.prog n_laws_eqSchedule args σ K := call_fn mixed Try.func32 k_laws_eqSchedule hn hw
theorem callC_laws_eqSchedule {args : List AV} {σ : List AB} {K : AV → List AB → Prop} (hn : args.length ≤ 17) (hw : Closed σ → args.all (below1 σ.length) = true → wpC Try.prog σ.length 17 c_laws_eqSchedule (retP σ.length [.t 4] K) ⟨initT 0 args, σ⟩) : CallWp Try.prog n_laws_eqSchedule args σ K := call_fnC mixed Try.func32 k_laws_eqSchedule hn hw

-- loop.example/deadlinescheduler/laws.eqTaskS
-- region 6 draws, 10 of 10 first
-- l0_laws_eqTaskS: live at the head: 0 1 5
def l0_laws_eqTaskS : LC := .seq (.seq (.ops [⟨some 11, none, .mv (.t 5)⟩,
      ⟨some 12, none, .mv (.t 0)⟩,
      ⟨some 13, none, .len (.t 12)⟩,
      ⟨some 14, none, .bin .lss (.t 11) (.t 13)⟩])
    (.cond (.t 14) (.skip)
    (.exit 0)))
    (.seq (.block 1 (.seq (.draw 10 [⟨some 17, none, .mv (.t 0)⟩,
      ⟨some 18, none, .mv (.t 5)⟩,
      ⟨some 19, none, .ia 3 (.t 17) (.t 18)⟩,
      ⟨some 20, none, .ldn 3 (.t 19)⟩,
      ⟨some 21, none, .mv (.t 1)⟩,
      ⟨some 22, none, .mv (.t 5)⟩,
      ⟨some 23, none, .ia 3 (.t 21) (.t 22)⟩,
      ⟨some 24, none, .ldn 3 (.t 23)⟩,
      ⟨some 25, none, .call (.k (.fn n_laws_eqTask [] [])) [.t 20, .t 24]⟩,
      ⟨some 26, none, .not (.t 25)⟩])
    (.cond (.t 26) (.seq (.ops [⟨some 4, none, .mv (.k (.b false))⟩])
    (.ret))
    (.skip))))
    (.ops [⟨some 15, none, .mv (.t 5)⟩,
      ⟨some 16, none, .bin .add (.t 15) (.k (.i .i64 1))⟩,
      ⟨some 5, none, .mv (.t 16)⟩]))
def c_laws_eqTaskS : LC := .seq (.ops [⟨some 4, none, .mv (.k (.b false))⟩])
    (.seq (.seq (.ops [⟨some 6, none, .mv (.t 0)⟩,
      ⟨some 7, none, .len (.t 6)⟩,
      ⟨some 8, none, .mv (.t 1)⟩,
      ⟨some 9, none, .len (.t 8)⟩,
      ⟨some 10, none, .bin .neq (.t 7) (.t 9)⟩])
    (.cond (.t 10) (.seq (.ops [⟨some 4, none, .mv (.k (.b false))⟩])
    (.ret))
    (.skip)))
    (.seq (.seq (.ops [⟨some 5, none, .mv (.k (.i .i64 0))⟩])
    (.block 0 (.loop l0_laws_eqTaskS)))
    (.seq (.ops [⟨some 4, none, .mv (.k (.b true))⟩])
    (.ret))))
theorem k_laws_eqTaskS : chkF Try.prog Try.f33 27 c_laws_eqTaskS [.t 4] = true := by kernel_rfl
theorem call_laws_eqTaskS {args : List AV} {σ : List AB} {K : AV → List AB → Prop} (hn : args.length ≤ 27) (hw : wpC Try.prog σ.length 27 c_laws_eqTaskS (retP σ.length [.t 4] K) ⟨initT 0 args, σ⟩) : CallWp Try.prog n_laws_eqTaskS args σ K := call_fn mixed Try.func33 k_laws_eqTaskS hn hw

-- loop.example/deadlinescheduler/laws.eqIntS
-- region 6 draws, 9 of 9 first
-- l0_laws_eqIntS: live at the head: 0 1 5
def l0_laws_eqIntS : LC := .seq (.seq (.ops [⟨some 11, none, .mv (.t 5)⟩,
      ⟨some 12, none, .mv (.t 0)⟩,
      ⟨some 13, none, .len (.t 12)⟩,
      ⟨some 14, none, .bin .lss (.t 11) (.t 13)⟩])
    (.cond (.t 14) (.skip)
    (.exit 0)))
    (.seq (.block 1 (.seq (.draw 9 [⟨some 17, none, .mv (.t 0)⟩,
      ⟨some 18, none, .mv (.t 5)⟩,
      ⟨some 19, none, .ia 1 (.t 17) (.t 18)⟩,
      ⟨some 20, none, .ld (.t 19)⟩,
      ⟨some 21, none, .mv (.t 1)⟩,
      ⟨some 22, none, .mv (.t 5)⟩,
      ⟨some 23, none, .ia 1 (.t 21) (.t 22)⟩,
      ⟨some 24, none, .ld (.t 23)⟩,
      ⟨some 25, none, .bin .neq (.t 20) (.t 24)⟩])
    (.cond (.t 25) (.seq (.ops [⟨some 4, none, .mv (.k (.b false))⟩])
    (.ret))
    (.skip))))
    (.ops [⟨some 15, none, .mv (.t 5)⟩,
      ⟨some 16, none, .bin .add (.t 15) (.k (.i .i64 1))⟩,
      ⟨some 5, none, .mv (.t 16)⟩]))
def c_laws_eqIntS : LC := .seq (.ops [⟨some 4, none, .mv (.k (.b false))⟩])
    (.seq (.seq (.ops [⟨some 6, none, .mv (.t 0)⟩,
      ⟨some 7, none, .len (.t 6)⟩,
      ⟨some 8, none, .mv (.t 1)⟩,
      ⟨some 9, none, .len (.t 8)⟩,
      ⟨some 10, none, .bin .neq (.t 7) (.t 9)⟩])
    (.cond (.t 10) (.seq (.ops [⟨some 4, none, .mv (.k (.b false))⟩])
    (.ret))
    (.skip)))
    (.seq (.seq (.ops [⟨some 5, none, .mv (.k (.i .i64 0))⟩])
    (.block 0 (.loop l0_laws_eqIntS)))
    (.seq (.ops [⟨some 4, none, .mv (.k (.b true))⟩])
    (.ret))))
theorem k_laws_eqIntS : chkF Try.prog Try.f34 26 c_laws_eqIntS [.t 4] = true := by kernel_rfl
theorem call_laws_eqIntS {args : List AV} {σ : List AB} {K : AV → List AB → Prop} (hn : args.length ≤ 26) (hw : wpC Try.prog σ.length 26 c_laws_eqIntS (retP σ.length [.t 4] K) ⟨initT 0 args, σ⟩) : CallWp Try.prog n_laws_eqIntS args σ K := call_fn mixed Try.func34 k_laws_eqIntS hn hw

-- loop.example/deadlinescheduler/laws.eqJobS
-- region 6 draws, 10 of 10 first
-- l0_laws_eqJobS: live at the head: 0 1 5
def l0_laws_eqJobS : LC := .seq (.seq (.ops [⟨some 11, none, .mv (.t 5)⟩,
      ⟨some 12, none, .mv (.t 0)⟩,
      ⟨some 13, none, .len (.t 12)⟩,
      ⟨some 14, none, .bin .lss (.t 11) (.t 13)⟩])
    (.cond (.t 14) (.skip)
    (.exit 0)))
    (.seq (.block 1 (.seq (.draw 10 [⟨some 17, none, .mv (.t 0)⟩,
      ⟨some 18, none, .mv (.t 5)⟩,
      ⟨some 19, none, .ia 4 (.t 17) (.t 18)⟩,
      ⟨some 20, none, .ldn 4 (.t 19)⟩,
      ⟨some 21, none, .mv (.t 1)⟩,
      ⟨some 22, none, .mv (.t 5)⟩,
      ⟨some 23, none, .ia 4 (.t 21) (.t 22)⟩,
      ⟨some 24, none, .ldn 4 (.t 23)⟩,
      ⟨some 25, none, .call (.k (.fn n_laws_eqJob [] [])) [.t 20, .t 24]⟩,
      ⟨some 26, none, .not (.t 25)⟩])
    (.cond (.t 26) (.seq (.ops [⟨some 4, none, .mv (.k (.b false))⟩])
    (.ret))
    (.skip))))
    (.ops [⟨some 15, none, .mv (.t 5)⟩,
      ⟨some 16, none, .bin .add (.t 15) (.k (.i .i64 1))⟩,
      ⟨some 5, none, .mv (.t 16)⟩]))
def c_laws_eqJobS : LC := .seq (.ops [⟨some 4, none, .mv (.k (.b false))⟩])
    (.seq (.seq (.ops [⟨some 6, none, .mv (.t 0)⟩,
      ⟨some 7, none, .len (.t 6)⟩,
      ⟨some 8, none, .mv (.t 1)⟩,
      ⟨some 9, none, .len (.t 8)⟩,
      ⟨some 10, none, .bin .neq (.t 7) (.t 9)⟩])
    (.cond (.t 10) (.seq (.ops [⟨some 4, none, .mv (.k (.b false))⟩])
    (.ret))
    (.skip)))
    (.seq (.seq (.ops [⟨some 5, none, .mv (.k (.i .i64 0))⟩])
    (.block 0 (.loop l0_laws_eqJobS)))
    (.seq (.ops [⟨some 4, none, .mv (.k (.b true))⟩])
    (.ret))))
theorem k_laws_eqJobS : chkF Try.prog Try.f35 27 c_laws_eqJobS [.t 4] = true := by kernel_rfl
theorem call_laws_eqJobS {args : List AV} {σ : List AB} {K : AV → List AB → Prop} (hn : args.length ≤ 27) (hw : wpC Try.prog σ.length 27 c_laws_eqJobS (retP σ.length [.t 4] K) ⟨initT 0 args, σ⟩) : CallWp Try.prog n_laws_eqJobS args σ K := call_fn mixed Try.func35 k_laws_eqJobS hn hw

-- loop.example/deadlinescheduler/laws.markTaskS
-- l0_laws_markTaskS: live at the head: 0 1 5
def l0_laws_markTaskS : LC := .seq (.seq (.ops [⟨some 6, none, .mv (.t 5)⟩,
      ⟨some 7, none, .mv (.t 0)⟩,
      ⟨some 8, none, .len (.t 7)⟩,
      ⟨some 9, none, .bin .lss (.t 6) (.t 8)⟩])
    (.cond (.t 9) (.skip)
    (.exit 0)))
    (.seq (.block 1 (.seq (.ops [⟨some 12, none, .mv (.t 0)⟩,
      ⟨some 13, none, .mv (.t 5)⟩,
      ⟨some 14, none, .mv (.t 1)⟩,
      ⟨some 15, none, .ia 3 (.t 12) (.t 13)⟩,
      ⟨some 16, none, .fa 0 (.t 15)⟩,
      ⟨none, none, .st 1 (.t 16) (.t 14)⟩])
    (.seq (.ops [⟨some 17, none, .mv (.t 1)⟩,
      ⟨some 18, none, .bin .add (.t 17) (.k (.i .i64 1))⟩,
      ⟨some 1, none, .mv (.t 18)⟩])
    (.seq (.ops [⟨some 19, none, .mv (.t 0)⟩,
      ⟨some 20, none, .mv (.t 5)⟩,
      ⟨some 21, none, .mv (.t 1)⟩,
      ⟨some 22, none, .ia 3 (.t 19) (.t 20)⟩,
      ⟨some 23, none, .fa 1 (.t 22)⟩,
      ⟨none, none, .st 1 (.t 23) (.t 21)⟩])
    (.seq (.ops [⟨some 24, none, .mv (.t 1)⟩,
      ⟨some 25, none, .bin .add (.t 24) (.k (.i .i64 1))⟩,
      ⟨some 1, none, .mv (.t 25)⟩])
    (.seq (.ops [⟨some 26, none, .mv (.t 0)⟩,
      ⟨some 27, none, .mv (.t 5)⟩,
      ⟨some 28, none, .mv (.t 1)⟩,
      ⟨some 29, none, .ia 3 (.t 26) (.t 27)⟩,
      ⟨some 30, none, .fa 2 (.t 29)⟩,
      ⟨none, none, .st 1 (.t 30) (.t 28)⟩])
    (.ops [⟨some 31, none, .mv (.t 1)⟩,
      ⟨some 32, none, .bin .add (.t 31) (.k (.i .i64 1))⟩,
      ⟨some 1, none, .mv (.t 32)⟩])))))))
    (.ops [⟨some 10, none, .mv (.t 5)⟩,
      ⟨some 11, none, .bin .add (.t 10) (.k (.i .i64 1))⟩,
      ⟨some 5, none, .mv (.t 11)⟩]))
def c_laws_markTaskS : LC := .seq (.ops [⟨some 4, none, .mv (.k (.i .i64 0))⟩])
    (.seq (.seq (.ops [⟨some 5, none, .mv (.k (.i .i64 0))⟩])
    (.block 0 (.loop l0_laws_markTaskS)))
    (.seq (.ops [⟨some 33, none, .mv (.t 1)⟩,
      ⟨some 4, none, .mv (.t 33)⟩])
    (.ret)))
theorem k_laws_markTaskS : chkF Try.prog Try.f36 34 c_laws_markTaskS [.t 4] = true := by kernel_rfl
theorem call_laws_markTaskS {args : List AV} {σ : List AB} {K : AV → List AB → Prop} (hn : args.length ≤ 34) (hw : wpC Try.prog σ.length 34 c_laws_markTaskS (retP σ.length [.t 4] K) ⟨initT 0 args, σ⟩) : CallWp Try.prog n_laws_markTaskS args σ K := call_fn mixed Try.func36 k_laws_markTaskS hn hw

-- loop.example/deadlinescheduler/laws.markIntS
-- l0_laws_markIntS: live at the head: 0 1 5
def l0_laws_markIntS : LC := .seq (.seq (.ops [⟨some 6, none, .mv (.t 5)⟩,
      ⟨some 7, none, .mv (.t 0)⟩,
      ⟨some 8, none, .len (.t 7)⟩,
      ⟨some 9, none, .bin .lss (.t 6) (.t 8)⟩])
    (.cond (.t 9) (.skip)
    (.exit 0)))
    (.seq (.block 1 (.seq (.ops [⟨some 12, none, .mv (.t 0)⟩,
      ⟨some 13, none, .mv (.t 5)⟩,
      ⟨some 14, none, .mv (.t 1)⟩,
      ⟨some 15, none, .ia 1 (.t 12) (.t 13)⟩,
      ⟨none, none, .st 1 (.t 15) (.t 14)⟩])
    (.ops [⟨some 16, none, .mv (.t 1)⟩,
      ⟨some 17, none, .bin .add (.t 16) (.k (.i .i64 1))⟩,
      ⟨some 1, none, .mv (.t 17)⟩])))
    (.ops [⟨some 10, none, .mv (.t 5)⟩,
      ⟨some 11, none, .bin .add (.t 10) (.k (.i .i64 1))⟩,
      ⟨some 5, none, .mv (.t 11)⟩]))
def c_laws_markIntS : LC := .seq (.ops [⟨some 4, none, .mv (.k (.i .i64 0))⟩])
    (.seq (.seq (.ops [⟨some 5, none, .mv (.k (.i .i64 0))⟩])
    (.block 0 (.loop l0_laws_markIntS)))
    (.seq (.ops [⟨some 18, none, .mv (.t 1)⟩,
      ⟨some 4, none, .mv (.t 18)⟩])
    (.ret)))
theorem k_laws_markIntS : chkF Try.prog Try.f37 19 c_laws_markIntS [.t 4] = true := by kernel_rfl
theorem call_laws_markIntS {args : List AV} {σ : List AB} {K : AV → List AB → Prop} (hn : args.length ≤ 19) (hw : wpC Try.prog σ.length 19 c_laws_markIntS (retP σ.length [.t 4] K) ⟨initT 0 args, σ⟩) : CallWp Try.prog n_laws_markIntS args σ K := call_fn mixed Try.func37 k_laws_markIntS hn hw

-- loop.example/deadlinescheduler/laws.markJobS
-- l0_laws_markJobS: live at the head: 0 1 5
def l0_laws_markJobS : LC := .seq (.seq (.ops [⟨some 6, none, .mv (.t 5)⟩,
      ⟨some 7, none, .mv (.t 0)⟩,
      ⟨some 8, none, .len (.t 7)⟩,
      ⟨some 9, none, .bin .lss (.t 6) (.t 8)⟩])
    (.cond (.t 9) (.skip)
    (.exit 0)))
    (.seq (.block 1 (.seq (.ops [⟨some 12, none, .mv (.t 0)⟩,
      ⟨some 13, none, .mv (.t 5)⟩,
      ⟨some 14, none, .mv (.t 1)⟩,
      ⟨some 15, none, .ia 4 (.t 12) (.t 13)⟩,
      ⟨some 16, none, .fa 0 (.t 15)⟩,
      ⟨none, none, .st 1 (.t 16) (.t 14)⟩])
    (.seq (.ops [⟨some 17, none, .mv (.t 1)⟩,
      ⟨some 18, none, .bin .add (.t 17) (.k (.i .i64 1))⟩,
      ⟨some 1, none, .mv (.t 18)⟩])
    (.seq (.ops [⟨some 19, none, .mv (.t 0)⟩,
      ⟨some 20, none, .mv (.t 5)⟩,
      ⟨some 21, none, .mv (.t 1)⟩,
      ⟨some 22, none, .ia 4 (.t 19) (.t 20)⟩,
      ⟨some 23, none, .fa 1 (.t 22)⟩,
      ⟨none, none, .st 1 (.t 23) (.t 21)⟩])
    (.seq (.ops [⟨some 24, none, .mv (.t 1)⟩,
      ⟨some 25, none, .bin .add (.t 24) (.k (.i .i64 1))⟩,
      ⟨some 1, none, .mv (.t 25)⟩])
    (.seq (.ops [⟨some 26, none, .mv (.t 0)⟩,
      ⟨some 27, none, .mv (.t 5)⟩,
      ⟨some 28, none, .mv (.t 1)⟩,
      ⟨some 29, none, .ia 4 (.t 26) (.t 27)⟩,
      ⟨some 30, none, .fa 2 (.t 29)⟩,
      ⟨none, none, .st 1 (.t 30) (.t 28)⟩])
    (.seq (.ops [⟨some 31, none, .mv (.t 1)⟩,
      ⟨some 32, none, .bin .add (.t 31) (.k (.i .i64 1))⟩,
      ⟨some 1, none, .mv (.t 32)⟩])
    (.seq (.ops [⟨some 33, none, .mv (.t 0)⟩,
      ⟨some 34, none, .mv (.t 5)⟩,
      ⟨some 35, none, .mv (.t 1)⟩,
      ⟨some 36, none, .ia 4 (.t 33) (.t 34)⟩,
      ⟨some 37, none, .fa 3 (.t 36)⟩,
      ⟨none, none, .st 1 (.t 37) (.t 35)⟩])
    (.ops [⟨some 38, none, .mv (.t 1)⟩,
      ⟨some 39, none, .bin .add (.t 38) (.k (.i .i64 1))⟩,
      ⟨some 1, none, .mv (.t 39)⟩])))))))))
    (.ops [⟨some 10, none, .mv (.t 5)⟩,
      ⟨some 11, none, .bin .add (.t 10) (.k (.i .i64 1))⟩,
      ⟨some 5, none, .mv (.t 11)⟩]))
def c_laws_markJobS : LC := .seq (.ops [⟨some 4, none, .mv (.k (.i .i64 0))⟩])
    (.seq (.seq (.ops [⟨some 5, none, .mv (.k (.i .i64 0))⟩])
    (.block 0 (.loop l0_laws_markJobS)))
    (.seq (.ops [⟨some 40, none, .mv (.t 1)⟩,
      ⟨some 4, none, .mv (.t 40)⟩])
    (.ret)))
theorem k_laws_markJobS : chkF Try.prog Try.f38 41 c_laws_markJobS [.t 4] = true := by kernel_rfl
theorem call_laws_markJobS {args : List AV} {σ : List AB} {K : AV → List AB → Prop} (hn : args.length ≤ 41) (hw : wpC Try.prog σ.length 41 c_laws_markJobS (retP σ.length [.t 4] K) ⟨initT 0 args, σ⟩) : CallWp Try.prog n_laws_markJobS args σ K := call_fn mixed Try.func38 k_laws_markJobS hn hw

-- loop.example/deadlinescheduler/laws.markSchedule
def c_laws_markSchedule : LC := .seq (.ops [⟨some 2, none, .box ty_impl_Schedule (.t 0)⟩,
      ⟨some 4, none, .mv (.k (.i .i64 0))⟩])
    (.seq (.ops [⟨some 5, none, .fa 0 (.t 2)⟩,
      ⟨some 6, none, .ld (.t 5)⟩,
      ⟨some 7, none, .mv (.t 1)⟩,
      ⟨some 8, none, .call (.k (.fn n_laws_markIntS [] [])) [.t 6, .t 7]⟩,
      ⟨some 1, none, .mv (.t 8)⟩])
    (.seq (.ops [⟨some 9, none, .fa 1 (.t 2)⟩,
      ⟨some 10, none, .ld (.t 9)⟩,
      ⟨some 11, none, .mv (.t 1)⟩,
      ⟨some 12, none, .call (.k (.fn n_laws_markIntS [] [])) [.t 10, .t 11]⟩,
      ⟨some 1, none, .mv (.t 12)⟩])
    (.seq (.ops [⟨some 13, none, .mv (.t 1)⟩,
      ⟨some 4, none, .mv (.t 13)⟩])
    (.ret))))
theorem k_laws_markSchedule : chkF Try.prog Try.f39 14 c_laws_markSchedule [.t 4] = true := by kernel_rfl
theorem call_laws_markSchedule {args : List AV} {σ : List AB} {K : AV → List AB → Prop} (hn : args.length ≤ 14) (hw : wpC Try.prog σ.length 14 c_laws_markSchedule (retP σ.length [.t 4] K) ⟨initT 0 args, σ⟩) : CallWp Try.prog n_laws_markSchedule args σ K := call_fn mixed Try.func39 k_laws_markSchedule hn hw
theorem callC_laws_markSchedule {args : List AV} {σ : List AB} {K : AV → List AB → Prop} (hn : args.length ≤ 14) (hw : Closed σ → args.all (below1 σ.length) = true → wpC Try.prog σ.length 14 c_laws_markSchedule (retP σ.length [.t 4] K) ⟨initT 0 args, σ⟩) : CallWp Try.prog n_laws_markSchedule args σ K := call_fnC mixed Try.func39 k_laws_markSchedule hn hw

-- loop.example/deadlinescheduler/laws.heldSchedule
def c_laws_heldSchedule : LC := .seq (.ops [⟨some 2, none, .box ty_impl_Schedule (.t 0)⟩,
      ⟨some 4, none, .mv (.k (.i .i64 0))⟩])
    (.seq (.ops [⟨some 5, none, .fa 0 (.t 2)⟩,
      ⟨some 6, none, .ld (.t 5)⟩,
      ⟨some 7, none, .mv (.t 1)⟩,
      ⟨some 8, none, .call (.k (.fn n_laws_heldIntS [] [])) [.t 6, .t 7]⟩,
      ⟨some 1, none, .mv (.t 8)⟩])
    (.seq (.seq (.ops [⟨some 9, none, .mv (.t 1)⟩,
      ⟨some 10, none, .bin .lss (.t 9) (.k (.i .i64 0))⟩])
    (.cond (.t 10) (.seq (.ops [⟨some 4, none, .mv (.k (.i .i64 (-1)))⟩])
    (.ret))
    (.skip)))
    (.seq (.ops [⟨some 11, none, .fa 1 (.t 2)⟩,
      ⟨some 12, none, .ld (.t 11)⟩,
      ⟨some 13, none, .mv (.t 1)⟩,
      ⟨some 14, none, .call (.k (.fn n_laws_heldIntS [] [])) [.t 12, .t 13]⟩,
      ⟨some 1, none, .mv (.t 14)⟩])
    (.seq (.seq (.ops [⟨some 15, none, .mv (.t 1)⟩,
      ⟨some 16, none, .bin .lss (.t 15) (.k (.i .i64 0))⟩])
    (.cond (.t 16) (.seq (.ops [⟨some 4, none, .mv (.k (.i .i64 (-1)))⟩])
    (.ret))
    (.skip)))
    (.seq (.ops [⟨some 17, none, .mv (.t 1)⟩,
      ⟨some 4, none, .mv (.t 17)⟩])
    (.ret))))))
theorem k_laws_heldSchedule : chkF Try.prog Try.f40 18 c_laws_heldSchedule [.t 4] = true := by kernel_rfl
theorem call_laws_heldSchedule {args : List AV} {σ : List AB} {K : AV → List AB → Prop} (hn : args.length ≤ 18) (hw : wpC Try.prog σ.length 18 c_laws_heldSchedule (retP σ.length [.t 4] K) ⟨initT 0 args, σ⟩) : CallWp Try.prog n_laws_heldSchedule args σ K := call_fn mixed Try.func40 k_laws_heldSchedule hn hw
theorem callC_laws_heldSchedule {args : List AV} {σ : List AB} {K : AV → List AB → Prop} (hn : args.length ≤ 18) (hw : Closed σ → args.all (below1 σ.length) = true → wpC Try.prog σ.length 18 c_laws_heldSchedule (retP σ.length [.t 4] K) ⟨initT 0 args, σ⟩) : CallWp Try.prog n_laws_heldSchedule args σ K := call_fnC mixed Try.func40 k_laws_heldSchedule hn hw

-- loop.example/deadlinescheduler/spec.Slack
-- l0_spec_Slack: live at the head: 1 2 7 20 21 22 23 24 25 26 27 28
def l0_spec_Slack : LC := .seq (.seq (.ops [⟨some 17, none, .mv (.t 7)⟩,
      ⟨some 18, none, .bin .lss (.t 17) (.k (.i .i64 120))⟩,
      ⟨some 19, none, .mv (.t 18)⟩,
      ⟨some 20, (some (19, true)), .mv (.t 1)⟩,
      ⟨some 21, (some (19, true)), .mv (.t 1)⟩,
      ⟨some 22, (some (19, true)), .mv (.t 2)⟩,
      ⟨some 23, (some (19, true)), .mv (.t 7)⟩,
      ⟨some 24, (some (19, true)), .bin .add (.t 23) (.k (.i .i64 1))⟩,
      ⟨some 25, (some (19, true)), .call (.k (.fn n_spec_l17Run [] [])) [.t 21, .t 22, .t 24]⟩,
      ⟨some 26, (some (19, true)), .call (.k (.fn n_spec_l3Missed [] [])) [.t 20, .t 25]⟩,
      ⟨some 27, (some (19, true)), .len (.t 26)⟩,
      ⟨some 28, (some (19, true)), .bin .eql (.t 27) (.k (.i .i64 0))⟩,
      ⟨some 29, none, .pick (.t 19) (.t 28) (.k (.b false))⟩])
    (.cond (.t 29) (.skip)
    (.exit 0)))
    (.block 1 (.ops [⟨some 30, none, .mv (.t 7)⟩,
      ⟨some 31, none, .bin .add (.t 30) (.k (.i .i64 1))⟩,
      ⟨some 7, none, .mv (.t 31)⟩]))
def c_spec_Slack : LC := .seq (.ops [⟨some 6, none, .mv (.k (.i .i64 0))⟩])
    (.seq (.seq (.ops [⟨some 8, none, .mv (.t 0)⟩,
      ⟨some 9, none, .mv (.t 1)⟩,
      ⟨some 10, none, .call (.k (.fn n_spec_JobsLegal [] [])) [.t 8, .t 9]⟩,
      ⟨some 11, none, .not (.t 10)⟩,
      ⟨some 12, none, .mv (.t 11)⟩,
      ⟨some 13, (some (12, false)), .mv (.t 2)⟩,
      ⟨some 14, (some (12, false)), .call (.k (.fn n_spec_l1In [] [])) [.t 13, .k (.i .i64 0), .k (.i .i64 120)]⟩,
      ⟨some 15, (some (12, false)), .not (.t 14)⟩,
      ⟨some 16, none, .pick (.t 12) (.k (.b true)) (.t 15)⟩])
    (.cond (.t 16) (.seq (.ops [⟨some 6, none, .mv (.k (.i .i64 (-1)))⟩])
    (.ret))
    (.skip)))
    (.seq (.ops [⟨some 7, none, .mv (.k (.i .i64 (-1)))⟩])
    (.seq (.block 0 (.loop l0_spec_Slack))
    (.seq (.ops [⟨some 32, none, .mv (.t 7)⟩,
      ⟨some 6, none, .mv (.t 32)⟩])
    (.ret)))))
theorem k_spec_Slack : chkF Try.prog Try.f41 33 c_spec_Slack [.t 6] = true := by kernel_rfl
theorem call_spec_Slack {args : List AV} {σ : List AB} {K : AV → List AB → Prop} (hn : args.length ≤ 33) (hw : wpC Try.prog σ.length 33 c_spec_Slack (retP σ.length [.t 6] K) ⟨initT 0 args, σ⟩) : CallWp Try.prog n_spec_Slack args σ K := call_fn mixed Try.func41 k_spec_Slack hn hw

-- loop.example/deadlinescheduler/impl.Slack
-- l0_impl_Slack: live at the head: 1 2 7
def l0_impl_Slack : LC := .seq (.seq (.ops [⟨some 17, none, .mv (.t 7)⟩,
      ⟨some 18, none, .bin .geq (.t 17) (.k (.i .i64 0))⟩])
    (.cond (.t 18) (.skip)
    (.exit 0)))
    (.seq (.block 1 (.seq (.ops [⟨some 21, none, .mv (.t 1)⟩,
      ⟨some 22, none, .mv (.t 1)⟩,
      ⟨some 23, none, .mv (.t 2)⟩,
      ⟨some 24, none, .mv (.t 7)⟩,
      ⟨some 25, none, .call (.k (.fn n_impl_pause [] [])) [.t 22, .t 23, .t 24]⟩,
      ⟨some 26, none, .call (.k (.fn n_impl_Missed [] [])) [.t 21, .t 25]⟩,
      ⟨some 27, none, .len (.t 26)⟩,
      ⟨some 28, none, .bin .eql (.t 27) (.k (.i .i64 0))⟩])
    (.cond (.t 28) (.seq (.ops [⟨some 29, none, .mv (.t 7)⟩,
      ⟨some 6, none, .mv (.t 29)⟩])
    (.ret))
    (.skip))))
    (.ops [⟨some 19, none, .mv (.t 7)⟩,
      ⟨some 20, none, .bin .sub (.t 19) (.k (.i .i64 1))⟩,
      ⟨some 7, none, .mv (.t 20)⟩]))
def c_impl_Slack : LC := .seq (.ops [⟨some 6, none, .mv (.k (.i .i64 0))⟩])
    (.seq (.seq (.ops [⟨some 8, none, .mv (.t 0)⟩,
      ⟨some 9, none, .mv (.t 1)⟩,
      ⟨some 10, none, .call (.k (.fn n_impl_JobsLegal [] [])) [.t 8, .t 9]⟩,
      ⟨some 11, none, .not (.t 10)⟩,
      ⟨some 12, none, .mv (.t 11)⟩,
      ⟨some 13, (some (12, false)), .mv (.t 2)⟩,
      ⟨some 14, (some (12, false)), .call (.k (.fn n_impl_in [] [])) [.t 13, .k (.i .i64 0), .k (.i .i64 120)]⟩,
      ⟨some 15, (some (12, false)), .not (.t 14)⟩,
      ⟨some 16, none, .pick (.t 12) (.k (.b true)) (.t 15)⟩])
    (.cond (.t 16) (.seq (.ops [⟨some 6, none, .mv (.k (.i .i64 (-1)))⟩])
    (.ret))
    (.skip)))
    (.seq (.seq (.ops [⟨some 7, none, .mv (.k (.i .i64 120))⟩])
    (.block 0 (.loop l0_impl_Slack)))
    (.seq (.ops [⟨some 6, none, .mv (.k (.i .i64 (-1)))⟩])
    (.ret))))
theorem k_impl_Slack : chkF Try.prog Try.f42 30 c_impl_Slack [.t 6] = true := by kernel_rfl
theorem call_impl_Slack {args : List AV} {σ : List AB} {K : AV → List AB → Prop} (hn : args.length ≤ 30) (hw : wpC Try.prog σ.length 30 c_impl_Slack (retP σ.length [.t 6] K) ⟨initT 0 args, σ⟩) : CallWp Try.prog n_impl_Slack args σ K := call_fn mixed Try.func42 k_impl_Slack hn hw

-- loop.example/deadlinescheduler/impl.RunPaused
def c_impl_RunPaused : LC := .seq (.ops [⟨some 8, none, .alloc ty_impl_Schedule [.sn, .sn]⟩])
    (.seq (.seq (.ops [⟨some 9, none, .mv (.t 0)⟩,
      ⟨some 10, none, .mv (.t 1)⟩,
      ⟨some 11, none, .call (.k (.fn n_impl_JobsLegal [] [])) [.t 9, .t 10]⟩,
      ⟨some 12, none, .not (.t 11)⟩,
      ⟨some 13, none, .mv (.t 12)⟩,
      ⟨some 14, (some (13, false)), .mv (.t 2)⟩,
      ⟨some 15, (some (13, false)), .call (.k (.fn n_impl_in [] [])) [.t 14, .k (.i .i64 0), .k (.i .i64 120)]⟩,
      ⟨some 16, (some (13, false)), .not (.t 15)⟩,
      ⟨some 17, none, .pick (.t 13) (.k (.b true)) (.t 16)⟩,
      ⟨some 18, none, .mv (.t 17)⟩,
      ⟨some 19, (some (18, false)), .mv (.t 3)⟩,
      ⟨some 20, (some (18, false)), .call (.k (.fn n_impl_in [] [])) [.t 19, .k (.i .i64 0), .k (.i .i64 120)]⟩,
      ⟨some 21, (some (18, false)), .not (.t 20)⟩,
      ⟨some 22, none, .pick (.t 18) (.k (.b true)) (.t 21)⟩])
    (.cond (.t 22) (.seq (.ops [⟨some 23, none, .build [.sn, .sn] []⟩,
      ⟨none, none, .st 2 (.t 8) (.t 23)⟩])
    (.ret))
    (.skip)))
    (.seq (.ops [⟨some 24, none, .mv (.t 1)⟩,
      ⟨some 25, none, .mv (.t 2)⟩,
      ⟨some 26, none, .mv (.t 3)⟩,
      ⟨some 27, none, .call (.k (.fn n_impl_pause [] [])) [.t 24, .t 25, .t 26]⟩,
      ⟨none, none, .st 2 (.t 8) (.t 27)⟩])
    (.ret)))
theorem k_impl_RunPaused : chkF Try.prog Try.f44 28 c_impl_RunPaused [.c 8 (some 2)] = true := by kernel_rfl
theorem call_impl_RunPaused {args : List AV} {σ : List AB} {K : AV → List AB → Prop} (hn : args.length ≤ 28) (hw : wpC Try.prog σ.length 28 c_impl_RunPaused (retP σ.length [.c 8 (some 2)] K) ⟨initT 0 args, σ⟩) : CallWp Try.prog n_impl_RunPaused args σ K := call_fn mixed Try.func44 k_impl_RunPaused hn hw

-- loop.example/deadlinescheduler/spec.RunPaused
def c_spec_RunPaused : LC := .seq (.ops [⟨some 8, none, .alloc ty_impl_Schedule [.sn, .sn]⟩])
    (.seq (.seq (.ops [⟨some 9, none, .mv (.t 0)⟩,
      ⟨some 10, none, .mv (.t 1)⟩,
      ⟨some 11, none, .call (.k (.fn n_spec_JobsLegal [] [])) [.t 9, .t 10]⟩,
      ⟨some 12, none, .not (.t 11)⟩,
      ⟨some 13, none, .mv (.t 12)⟩,
      ⟨some 14, (some (13, false)), .mv (.t 2)⟩,
      ⟨some 15, (some (13, false)), .call (.k (.fn n_spec_l1In [] [])) [.t 14, .k (.i .i64 0), .k (.i .i64 120)]⟩,
      ⟨some 16, (some (13, false)), .not (.t 15)⟩,
      ⟨some 17, none, .pick (.t 13) (.k (.b true)) (.t 16)⟩,
      ⟨some 18, none, .mv (.t 17)⟩,
      ⟨some 19, (some (18, false)), .mv (.t 3)⟩,
      ⟨some 20, (some (18, false)), .call (.k (.fn n_spec_l1In [] [])) [.t 19, .k (.i .i64 0), .k (.i .i64 120)]⟩,
      ⟨some 21, (some (18, false)), .not (.t 20)⟩,
      ⟨some 22, none, .pick (.t 18) (.k (.b true)) (.t 21)⟩])
    (.cond (.t 22) (.seq (.ops [⟨some 23, none, .build [.sn, .sn] []⟩,
      ⟨none, none, .st 2 (.t 8) (.t 23)⟩])
    (.ret))
    (.skip)))
    (.seq (.ops [⟨some 24, none, .mv (.t 1)⟩,
      ⟨some 25, none, .mv (.t 2)⟩,
      ⟨some 26, none, .mv (.t 3)⟩,
      ⟨some 27, none, .call (.k (.fn n_spec_l17Run [] [])) [.t 24, .t 25, .t 26]⟩,
      ⟨none, none, .st 2 (.t 8) (.t 27)⟩])
    (.ret)))
theorem k_spec_RunPaused : chkF Try.prog Try.f45 28 c_spec_RunPaused [.c 8 (some 2)] = true := by kernel_rfl
theorem call_spec_RunPaused {args : List AV} {σ : List AB} {K : AV → List AB → Prop} (hn : args.length ≤ 28) (hw : wpC Try.prog σ.length 28 c_spec_RunPaused (retP σ.length [.c 8 (some 2)] K) ⟨initT 0 args, σ⟩) : CallWp Try.prog n_spec_RunPaused args σ K := call_fn mixed Try.func45 k_spec_RunPaused hn hw

-- loop.example/deadlinescheduler/impl.RunEdf
def c_impl_RunEdf : LC := .seq (.ops [⟨some 4, none, .alloc ty_impl_Schedule [.sn, .sn]⟩])
    (.seq (.seq (.ops [⟨some 5, none, .mv (.t 0)⟩,
      ⟨some 6, none, .mv (.t 1)⟩,
      ⟨some 7, none, .call (.k (.fn n_impl_JobsLegal [] [])) [.t 5, .t 6]⟩,
      ⟨some 8, none, .not (.t 7)⟩])
    (.cond (.t 8) (.seq (.ops [⟨some 9, none, .build [.sn, .sn] []⟩,
      ⟨none, none, .st 2 (.t 4) (.t 9)⟩])
    (.ret))
    (.skip)))
    (.seq (.ops [⟨some 10, none, .mv (.t 1)⟩,
      ⟨some 11, none, .call (.k (.fn n_impl_simulate [] [])) [.t 10, .k (.fn n_impl_edf [] [])]⟩,
      ⟨none, none, .st 2 (.t 4) (.t 11)⟩])
    (.ret)))
theorem k_impl_RunEdf : chkF Try.prog Try.f46 12 c_impl_RunEdf [.c 4 (some 2)] = true := by kernel_rfl
theorem call_impl_RunEdf {args : List AV} {σ : List AB} {K : AV → List AB → Prop} (hn : args.length ≤ 12) (hw : wpC Try.prog σ.length 12 c_impl_RunEdf (retP σ.length [.c 4 (some 2)] K) ⟨initT 0 args, σ⟩) : CallWp Try.prog n_impl_RunEdf args σ K := call_fn mixed Try.func46 k_impl_RunEdf hn hw

-- loop.example/deadlinescheduler/spec.DrawSlack
def c_spec_DrawSlack : LC := .seq (.ops [⟨some 2, none, .mv (.k (.sn))⟩,
      ⟨some 3, none, .mv (.k (.sn))⟩,
      ⟨some 4, none, .mv (.k (.i .i64 0))⟩])
    (.seq (.ops [⟨some 10, none, .mv (.t 0)⟩,
      ⟨some 11, none, .call (.k (.fn n_spec_DrawRunPaused [] [])) [.t 10]⟩,
      ⟨some 9, none, .mv (.t 11)⟩,
      ⟨some 12, none, .ext 0 (.t 9)⟩,
      ⟨some 13, none, .ext 1 (.t 9)⟩,
      ⟨some 14, none, .ext 2 (.t 9)⟩,
      ⟨some 15, none, .ext 3 (.t 9)⟩,
      ⟨some 5, none, .mv (.t 12)⟩,
      ⟨some 6, none, .mv (.t 13)⟩,
      ⟨some 7, none, .mv (.t 14)⟩,
      ⟨some 8, none, .mv (.t 15)⟩])
    (.seq (.ops [⟨some 16, none, .mv (.t 5)⟩,
      ⟨some 17, none, .mv (.t 6)⟩,
      ⟨some 18, none, .mv (.t 7)⟩,
      ⟨some 2, none, .mv (.t 16)⟩,
      ⟨some 3, none, .mv (.t 17)⟩,
      ⟨some 4, none, .mv (.t 18)⟩])
    (.ret)))
theorem k_spec_DrawSlack : chkF Try.prog Try.f47 19 c_spec_DrawSlack [.t 2, .t 3, .t 4] = true := by kernel_rfl
theorem call_spec_DrawSlack {args : List AV} {σ : List AB} {K : AV → List AB → Prop} (hn : args.length ≤ 19) (hw : wpC Try.prog σ.length 19 c_spec_DrawSlack (retP σ.length [.t 2, .t 3, .t 4] K) ⟨initT 0 args, σ⟩) : CallWp Try.prog n_spec_DrawSlack args σ K := call_fn mixed Try.func47 k_spec_DrawSlack hn hw

-- loop.example/deadlinescheduler/spec.JobsLegal
-- region 11 draws, 26 of 26 first
-- region 13 draws, 35 of 35 first
-- l0_spec_JobsLegal: live at the head: 0 1 5 6 38 39 40 41 57 58 59 60 61 62 63 64 67 68 69 70 71 72 77 78 79 80 81 82 83 84 85 86 87 88 89 90 91 92 93 94 95 96 97 98 99 100 101 102 103 104 105 106 107
def l0_spec_JobsLegal : LC := .seq (.seq (.ops [⟨some 20, none, .mv (.t 6)⟩,
      ⟨some 21, none, .mv (.t 1)⟩,
      ⟨some 22, none, .len (.t 21)⟩,
      ⟨some 23, none, .bin .lss (.t 20) (.t 22)⟩])
    (.cond (.t 23) (.skip)
    (.exit 0)))
    (.seq (.block 1 (.seq (.ops [⟨some 26, none, .mv (.t 1)⟩,
      ⟨some 27, none, .mv (.t 6)⟩,
      ⟨some 28, none, .ia 4 (.t 26) (.t 27)⟩,
      ⟨some 29, none, .ldn 4 (.t 28)⟩,
      ⟨some 7, none, .alloc ty_impl_Job [.i .i64 0, .i .i64 0, .i .i64 0, .i .i64 0]⟩,
      ⟨none, none, .st 4 (.t 7) (.t 29)⟩])
    (.seq (.seq (.ops [⟨some 30, none, .fa 0 (.t 7)⟩,
      ⟨some 31, none, .ld (.t 30)⟩,
      ⟨some 32, none, .mv (.t 0)⟩,
      ⟨some 33, none, .len (.t 32)⟩,
      ⟨some 34, none, .bin .sub (.t 33) (.k (.i .i64 1))⟩,
      ⟨some 35, none, .call (.k (.fn n_spec_l1In [] [])) [.t 31, .k (.i .i64 0), .t 34]⟩,
      ⟨some 36, none, .not (.t 35)⟩,
      ⟨some 37, none, .mv (.t 36)⟩,
      ⟨some 38, (some (37, false)), .fa 1 (.t 7)⟩,
      ⟨some 39, (some (37, false)), .ld (.t 38)⟩,
      ⟨some 40, (some (37, false)), .call (.k (.fn n_spec_l1In [] [])) [.t 39, .k (.i .i64 0), .k (.i .i64 119)]⟩,
      ⟨some 41, (some (37, false)), .not (.t 40)⟩,
      ⟨some 42, none, .pick (.t 37) (.k (.b true)) (.t 41)⟩])
    (.cond (.t 42) (.seq (.ops [⟨some 4, none, .mv (.k (.b false))⟩])
    (.ret))
    (.skip)))
    (.seq (.ops [⟨some 43, none, .mv (.t 0)⟩,
      ⟨some 44, none, .fa 0 (.t 7)⟩,
      ⟨some 45, none, .ld (.t 44)⟩,
      ⟨some 46, none, .ia 3 (.t 43) (.t 45)⟩,
      ⟨some 47, none, .ldn 3 (.t 46)⟩,
      ⟨some 8, none, .alloc ty_impl_Task [.i .i64 0, .i .i64 0, .i .i64 0]⟩,
      ⟨none, none, .st 3 (.t 8) (.t 47)⟩])
    (.seq (.seq (.draw 26 [⟨some 48, none, .fa 1 (.t 7)⟩,
      ⟨some 49, none, .ld (.t 48)⟩,
      ⟨some 50, none, .mv (.t 5)⟩,
      ⟨some 51, none, .fa 0 (.t 7)⟩,
      ⟨some 52, none, .ld (.t 51)⟩,
      ⟨some 53, none, .ia 1 (.t 50) (.t 52)⟩,
      ⟨some 54, none, .ld (.t 53)⟩,
      ⟨some 55, none, .bin .lss (.t 49) (.t 54)⟩,
      ⟨some 56, none, .mv (.t 55)⟩,
      ⟨some 57, (some (56, false)), .fa 2 (.t 7)⟩,
      ⟨some 58, (some (56, false)), .ld (.t 57)⟩,
      ⟨some 59, (some (56, false)), .fa 1 (.t 7)⟩,
      ⟨some 60, (some (56, false)), .ld (.t 59)⟩,
      ⟨some 61, (some (56, false)), .fa 1 (.t 8)⟩,
      ⟨some 62, (some (56, false)), .ld (.t 61)⟩,
      ⟨some 63, (some (56, false)), .bin .add (.t 60) (.t 62)⟩,
      ⟨some 64, (some (56, false)), .bin .neq (.t 58) (.t 63)⟩,
      ⟨some 65, none, .pick (.t 56) (.k (.b true)) (.t 64)⟩,
      ⟨some 66, none, .mv (.t 65)⟩,
      ⟨some 67, (some (66, false)), .fa 3 (.t 7)⟩,
      ⟨some 68, (some (66, false)), .ld (.t 67)⟩,
      ⟨some 69, (some (66, false)), .fa 0 (.t 8)⟩,
      ⟨some 70, (some (66, false)), .ld (.t 69)⟩,
      ⟨some 71, (some (66, false)), .call (.k (.fn n_spec_l1In [] [])) [.t 68, .k (.i .i64 1), .t 70]⟩,
      ⟨some 72, (some (66, false)), .not (.t 71)⟩,
      ⟨some 73, none, .pick (.t 66) (.k (.b true)) (.t 72)⟩])
    (.cond (.t 73) (.seq (.ops [⟨some 4, none, .mv (.k (.b false))⟩])
    (.ret))
    (.skip)))
    (.seq (.seq (.draw 35 [⟨some 74, none, .mv (.t 6)⟩,
      ⟨some 75, none, .bin .gtr (.t 74) (.k (.i .i64 0))⟩,
      ⟨some 76, none, .mv (.t 75)⟩,
      ⟨some 77, (some (76, true)), .mv (.t 1)⟩,
      ⟨some 78, (some (76, true)), .mv (.t 6)⟩,
      ⟨some 79, (some (76, true)), .bin .sub (.t 78) (.k (.i .i64 1))⟩,
      ⟨some 80, (some (76, true)), .ia 4 (.t 77) (.t 79)⟩,
      ⟨some 81, (some (76, true)), .fa 1 (.t 80)⟩,
      ⟨some 82, (some (76, true)), .ld (.t 81)⟩,
      ⟨some 83, (some (76, true)), .fa 1 (.t 7)⟩,
      ⟨some 84, (some (76, true)), .ld (.t 83)⟩,
      ⟨some 85, (some (76, true)), .bin .gtr (.t 82) (.t 84)⟩,
      ⟨some 86, (some (76, true)), .mv (.t 85)⟩,
      ⟨some 87, (some (86, false)), .mv (.t 1)⟩,
      ⟨some 88, (some (86, false)), .mv (.t 6)⟩,
      ⟨some 89, (some (86, false)), .bin .sub (.t 88) (.k (.i .i64 1))⟩,
      ⟨some 90, (some (86, false)), .ia 4 (.t 87) (.t 89)⟩,
      ⟨some 91, (some (86, false)), .fa 1 (.t 90)⟩,
      ⟨some 92, (some (86, false)), .ld (.t 91)⟩,
      ⟨some 93, (some (86, false)), .fa 1 (.t 7)⟩,
      ⟨some 94, (some (86, false)), .ld (.t 93)⟩,
      ⟨some 95, (some (86, false)), .bin .eql (.t 92) (.t 94)⟩,
      ⟨some 96, (some (86, false)), .mv (.t 95)⟩,
      ⟨some 97, (some (96, true)), .mv (.t 1)⟩,
      ⟨some 98, (some (96, true)), .mv (.t 6)⟩,
      ⟨some 99, (some (96, true)), .bin .sub (.t 98) (.k (.i .i64 1))⟩,
      ⟨some 100, (some (96, true)), .ia 4 (.t 97) (.t 99)⟩,
      ⟨some 101, (some (96, true)), .fa 0 (.t 100)⟩,
      ⟨some 102, (some (96, true)), .ld (.t 101)⟩,
      ⟨some 103, (some (96, true)), .fa 0 (.t 7)⟩,
      ⟨some 104, (some (96, true)), .ld (.t 103)⟩,
      ⟨some 105, (some (96, true)), .bin .geq (.t 102) (.t 104)⟩,
      ⟨some 106, (some (86, false)), .pick (.t 96) (.t 105) (.k (.b false))⟩,
      ⟨some 107, (some (76, true)), .pick (.t 86) (.k (.b true)) (.t 106)⟩,
      ⟨some 108, none, .pick (.t 76) (.t 107) (.k (.b false))⟩])
    (.cond (.t 108) (.seq (.ops [⟨some 4, none, .mv (.k (.b false))⟩])
    (.ret))
    (.skip)))
    (.ops [⟨some 109, none, .mv (.t 5)⟩,
      ⟨some 110, none, .fa 0 (.t 7)⟩,
      ⟨some 111, none, .ld (.t 110)⟩,
      ⟨some 112, none, .fa 1 (.t 7)⟩,
      ⟨some 113, none, .ld (.t 112)⟩,
      ⟨some 114, none, .fa 2 (.t 8)⟩,
      ⟨some 115, none, .ld (.t 114)⟩,
      ⟨some 116, none, .bin .add (.t 113) (.t 115)⟩,
      ⟨some 117, none, .ia 1 (.t 109) (.t 111)⟩,
      ⟨none, none, .st 1 (.t 117) (.t 116)⟩])))))))
    (.ops [⟨some 24, none, .mv (.t 6)⟩,
      ⟨some 25, none, .bin .add (.t 24) (.k (.i .i64 1))⟩,
      ⟨some 6, none, .mv (.t 25)⟩]))
def c_spec_JobsLegal : LC := .seq (.ops [⟨some 4, none, .mv (.k (.b false))⟩])
    (.seq (.seq (.ops [⟨some 9, none, .mv (.t 0)⟩,
      ⟨some 10, none, .call (.k (.fn n_spec_SetValid [] [])) [.t 9]⟩,
      ⟨some 11, none, .not (.t 10)⟩,
      ⟨some 12, none, .mv (.t 11)⟩,
      ⟨some 13, (some (12, false)), .mv (.t 1)⟩,
      ⟨some 14, (some (12, false)), .len (.t 13)⟩,
      ⟨some 15, (some (12, false)), .bin .gtr (.t 14) (.k (.i .i64 60))⟩,
      ⟨some 16, none, .pick (.t 12) (.k (.b true)) (.t 15)⟩])
    (.cond (.t 16) (.seq (.ops [⟨some 4, none, .mv (.k (.b false))⟩])
    (.ret))
    (.skip)))
    (.seq (.ops [⟨some 17, none, .mv (.t 0)⟩,
      ⟨some 18, none, .len (.t 17)⟩,
      ⟨some 19, none, .msl ty_int 8 [.i .i64 0] (.t 18)⟩,
      ⟨some 5, none, .mv (.t 19)⟩])
    (.seq (.seq (.ops [⟨some 6, none, .mv (.k (.i .i64 0))⟩])
    (.block 0 (.loop l0_spec_JobsLegal)))
    (.seq (.ops [⟨some 4, none, .mv (.k (.b true))⟩])
    (.ret)))))
theorem k_spec_JobsLegal : chkF Try.prog Try.f48 118 c_spec_JobsLegal [.t 4] = true := by kernel_rfl
theorem call_spec_JobsLegal {args : List AV} {σ : List AB} {K : AV → List AB → Prop} (hn : args.length ≤ 118) (hw : wpC Try.prog σ.length 118 c_spec_JobsLegal (retP σ.length [.t 4] K) ⟨initT 0 args, σ⟩) : CallWp Try.prog n_spec_JobsLegal args σ K := call_fn mixed Try.func48 k_spec_JobsLegal hn hw

-- loop.example/deadlinescheduler/spec.DrawStealSlack
-- region 4: a plan with 10 orders
def c_spec_DrawStealSlack : LC := .seq (.ops [⟨some 2, none, .mv (.k (.sn))⟩,
      ⟨some 3, none, .mv (.k (.sn))⟩,
      ⟨some 4, none, .alloc ty_impl_Arrival [.i .i64 0, .i .i64 0]⟩])
    (.seq (.ops [⟨some 9, none, .mv (.t 0)⟩,
      ⟨some 10, none, .call (.k (.fn n_spec_DrawRunEdf [] [])) [.t 9]⟩,
      ⟨some 8, none, .mv (.t 10)⟩,
      ⟨some 11, none, .ext 0 (.t 8)⟩,
      ⟨some 12, none, .ext 1 (.t 8)⟩,
      ⟨some 5, none, .mv (.t 11)⟩,
      ⟨some 6, none, .mv (.t 12)⟩])
    (.seq (.ops [⟨some 13, none, .mv (.t 0)⟩,
      ⟨some 14, none, .call (.k (.fn n_spec_l20Open [] [])) [.t 13]⟩,
      ⟨some 7, none, .mv (.t 14)⟩])
    (.seq (.ops [⟨some 15, none, .mv (.t 7)⟩,
      ⟨some 16, none, .nilc (.t 15)⟩,
      ⟨some 17, none, .fa 1 (.t 16)⟩,
      ⟨none, none, .st 1 (.t 17) (.k (.i .i64 5))⟩])
    (.seq (.plan [0, 1, 2, 5, 10, 14] [⟨some 18, none, .mv (.t 5)⟩,
      ⟨some 19, none, .mv (.t 6)⟩,
      ⟨some 20, none, .mv (.t 7)⟩,
      ⟨some 23, none, .mv (.t 7)⟩,
      ⟨some 28, none, .mv (.t 7)⟩,
      ⟨some 32, none, .mv (.t 7)⟩]
      (.one 3 ⟨some 21, none, .call (.k (.fn n_spec_l20Rd_pick [] [])) [.t 20, .k (.i .i64 70)]⟩ [] []
        []
      (.alt (.one 4 ⟨some 22, none, .bsl ty_int [.i .i64 0] 2 [(0, 1, .t 21), (1, 1, .k (.i .i64 (-1)))]⟩ [] []
        []
      (.one 6 ⟨some 24, none, .call (.k (.fn n_spec_l20Rd_pick [] [])) [.t 23, .k (.i .i64 9)]⟩ [] [7, 8, 9]
        [⟨some 25, none, .bin .quo (.t 24) (.k (.i .i64 8))⟩,
        ⟨some 26, none, .ia 1 (.t 22) (.t 25)⟩,
        ⟨some 27, none, .ld (.t 26)⟩]
      (.one 11 ⟨some 29, none, .call (.k (.fn n_spec_l20Rd_pick [] [])) [.t 28, .k (.i .i64 8)]⟩ [(27, none, 26)] [12]
        [⟨some 30, none, .bin .add (.k (.i .i64 1)) (.t 29)⟩]
      (.alt (.one 13 ⟨some 31, none, .bsl ty_int [.i .i64 0] 2 [(0, 1, .t 30), (1, 1, .k (.i .i64 0))]⟩ [(27, none, 26)] []
        []
      (.one 15 ⟨some 33, none, .call (.k (.fn n_spec_l20Rd_pick [] [])) [.t 32, .k (.i .i64 9)]⟩ [(27, none, 26)] [16, 17, 18, 19, 20, 21]
        [⟨some 34, none, .bin .quo (.t 33) (.k (.i .i64 8))⟩,
        ⟨some 35, none, .ia 1 (.t 31) (.t 34)⟩,
        ⟨some 36, none, .ld (.t 35)⟩,
        ⟨some 37, none, .build [.i .i64 0, .i .i64 0] [(0, 1, .t 27), (1, 1, .t 36)]⟩,
        ⟨some 2, none, .mv (.t 18)⟩,
        ⟨some 3, none, .mv (.t 19)⟩]
      (.one 22 ⟨none, none, .st 2 (.t 4) (.t 37)⟩ [] []
        []
      .fin))) (.one 15 ⟨some 33, none, .call (.k (.fn n_spec_l20Rd_pick [] [])) [.t 32, .k (.i .i64 9)]⟩ [(27, none, 26)] [16, 20, 21]
        [⟨some 34, none, .bin .quo (.t 33) (.k (.i .i64 8))⟩,
        ⟨some 2, none, .mv (.t 18)⟩,
        ⟨some 3, none, .mv (.t 19)⟩]
      (.one 13 ⟨some 31, none, .bsl ty_int [.i .i64 0] 2 [(0, 1, .t 30), (1, 1, .k (.i .i64 0))]⟩ [(27, none, 26)] [17, 18, 19]
        [⟨some 35, none, .ia 1 (.t 31) (.t 34)⟩,
        ⟨some 36, none, .ld (.t 35)⟩,
        ⟨some 37, none, .build [.i .i64 0, .i .i64 0] [(0, 1, .t 27), (1, 1, .t 36)]⟩]
      (.one 22 ⟨none, none, .st 2 (.t 4) (.t 37)⟩ [] []
        []
      .fin))))))) (.one 6 ⟨some 24, none, .call (.k (.fn n_spec_l20Rd_pick [] [])) [.t 23, .k (.i .i64 9)]⟩ [] [7]
        [⟨some 25, none, .bin .quo (.t 24) (.k (.i .i64 8))⟩]
      (.alt (.one 4 ⟨some 22, none, .bsl ty_int [.i .i64 0] 2 [(0, 1, .t 21), (1, 1, .k (.i .i64 (-1)))]⟩ [] [8, 9]
        [⟨some 26, none, .ia 1 (.t 22) (.t 25)⟩,
        ⟨some 27, none, .ld (.t 26)⟩]
      (.one 11 ⟨some 29, none, .call (.k (.fn n_spec_l20Rd_pick [] [])) [.t 28, .k (.i .i64 8)]⟩ [(27, none, 26)] [12]
        [⟨some 30, none, .bin .add (.k (.i .i64 1)) (.t 29)⟩]
      (.alt (.one 13 ⟨some 31, none, .bsl ty_int [.i .i64 0] 2 [(0, 1, .t 30), (1, 1, .k (.i .i64 0))]⟩ [(27, none, 26)] []
        []
      (.one 15 ⟨some 33, none, .call (.k (.fn n_spec_l20Rd_pick [] [])) [.t 32, .k (.i .i64 9)]⟩ [(27, none, 26)] [16, 17, 18, 19, 20, 21]
        [⟨some 34, none, .bin .quo (.t 33) (.k (.i .i64 8))⟩,
        ⟨some 35, none, .ia 1 (.t 31) (.t 34)⟩,
        ⟨some 36, none, .ld (.t 35)⟩,
        ⟨some 37, none, .build [.i .i64 0, .i .i64 0] [(0, 1, .t 27), (1, 1, .t 36)]⟩,
        ⟨some 2, none, .mv (.t 18)⟩,
        ⟨some 3, none, .mv (.t 19)⟩]
      (.one 22 ⟨none, none, .st 2 (.t 4) (.t 37)⟩ [] []
        []
      .fin))) (.one 15 ⟨some 33, none, .call (.k (.fn n_spec_l20Rd_pick [] [])) [.t 32, .k (.i .i64 9)]⟩ [(27, none, 26)] [16, 20, 21]
        [⟨some 34, none, .bin .quo (.t 33) (.k (.i .i64 8))⟩,
        ⟨some 2, none, .mv (.t 18)⟩,
        ⟨some 3, none, .mv (.t 19)⟩]
      (.one 13 ⟨some 31, none, .bsl ty_int [.i .i64 0] 2 [(0, 1, .t 30), (1, 1, .k (.i .i64 0))]⟩ [(27, none, 26)] [17, 18, 19]
        [⟨some 35, none, .ia 1 (.t 31) (.t 34)⟩,
        ⟨some 36, none, .ld (.t 35)⟩,
        ⟨some 37, none, .build [.i .i64 0, .i .i64 0] [(0, 1, .t 27), (1, 1, .t 36)]⟩]
      (.one 22 ⟨none, none, .st 2 (.t 4) (.t 37)⟩ [] []
        []
      .fin)))))) (.one 11 ⟨some 29, none, .call (.k (.fn n_spec_l20Rd_pick [] [])) [.t 28, .k (.i .i64 8)]⟩ [] [12]
        [⟨some 30, none, .bin .add (.k (.i .i64 1)) (.t 29)⟩]
      (.alt (.one 4 ⟨some 22, none, .bsl ty_int [.i .i64 0] 2 [(0, 1, .t 21), (1, 1, .k (.i .i64 (-1)))]⟩ [] [8, 9]
        [⟨some 26, none, .ia 1 (.t 22) (.t 25)⟩,
        ⟨some 27, none, .ld (.t 26)⟩]
      (.alt (.one 13 ⟨some 31, none, .bsl ty_int [.i .i64 0] 2 [(0, 1, .t 30), (1, 1, .k (.i .i64 0))]⟩ [(27, none, 26)] []
        []
      (.one 15 ⟨some 33, none, .call (.k (.fn n_spec_l20Rd_pick [] [])) [.t 32, .k (.i .i64 9)]⟩ [(27, none, 26)] [16, 17, 18, 19, 20, 21]
        [⟨some 34, none, .bin .quo (.t 33) (.k (.i .i64 8))⟩,
        ⟨some 35, none, .ia 1 (.t 31) (.t 34)⟩,
        ⟨some 36, none, .ld (.t 35)⟩,
        ⟨some 37, none, .build [.i .i64 0, .i .i64 0] [(0, 1, .t 27), (1, 1, .t 36)]⟩,
        ⟨some 2, none, .mv (.t 18)⟩,
        ⟨some 3, none, .mv (.t 19)⟩]
      (.one 22 ⟨none, none, .st 2 (.t 4) (.t 37)⟩ [] []
        []
      .fin))) (.one 15 ⟨some 33, none, .call (.k (.fn n_spec_l20Rd_pick [] [])) [.t 32, .k (.i .i64 9)]⟩ [(27, none, 26)] [16, 20, 21]
        [⟨some 34, none, .bin .quo (.t 33) (.k (.i .i64 8))⟩,
        ⟨some 2, none, .mv (.t 18)⟩,
        ⟨some 3, none, .mv (.t 19)⟩]
      (.one 13 ⟨some 31, none, .bsl ty_int [.i .i64 0] 2 [(0, 1, .t 30), (1, 1, .k (.i .i64 0))]⟩ [(27, none, 26)] [17, 18, 19]
        [⟨some 35, none, .ia 1 (.t 31) (.t 34)⟩,
        ⟨some 36, none, .ld (.t 35)⟩,
        ⟨some 37, none, .build [.i .i64 0, .i .i64 0] [(0, 1, .t 27), (1, 1, .t 36)]⟩]
      (.one 22 ⟨none, none, .st 2 (.t 4) (.t 37)⟩ [] []
        []
      .fin))))) (.alt (.one 13 ⟨some 31, none, .bsl ty_int [.i .i64 0] 2 [(0, 1, .t 30), (1, 1, .k (.i .i64 0))]⟩ [] []
        []
      (.alt (.one 4 ⟨some 22, none, .bsl ty_int [.i .i64 0] 2 [(0, 1, .t 21), (1, 1, .k (.i .i64 (-1)))]⟩ [] [8, 9]
        [⟨some 26, none, .ia 1 (.t 22) (.t 25)⟩,
        ⟨some 27, none, .ld (.t 26)⟩]
      (.one 15 ⟨some 33, none, .call (.k (.fn n_spec_l20Rd_pick [] [])) [.t 32, .k (.i .i64 9)]⟩ [(27, none, 26)] [16, 17, 18, 19, 20, 21]
        [⟨some 34, none, .bin .quo (.t 33) (.k (.i .i64 8))⟩,
        ⟨some 35, none, .ia 1 (.t 31) (.t 34)⟩,
        ⟨some 36, none, .ld (.t 35)⟩,
        ⟨some 37, none, .build [.i .i64 0, .i .i64 0] [(0, 1, .t 27), (1, 1, .t 36)]⟩,
        ⟨some 2, none, .mv (.t 18)⟩,
        ⟨some 3, none, .mv (.t 19)⟩]
      (.one 22 ⟨none, none, .st 2 (.t 4) (.t 37)⟩ [] []
        []
      .fin))) (.one 15 ⟨some 33, none, .call (.k (.fn n_spec_l20Rd_pick [] [])) [.t 32, .k (.i .i64 9)]⟩ [] [16, 17, 18, 20, 21]
        [⟨some 34, none, .bin .quo (.t 33) (.k (.i .i64 8))⟩,
        ⟨some 35, none, .ia 1 (.t 31) (.t 34)⟩,
        ⟨some 36, none, .ld (.t 35)⟩,
        ⟨some 2, none, .mv (.t 18)⟩,
        ⟨some 3, none, .mv (.t 19)⟩]
      (.one 4 ⟨some 22, none, .bsl ty_int [.i .i64 0] 2 [(0, 1, .t 21), (1, 1, .k (.i .i64 (-1)))]⟩ [(36, none, 35)] [8, 9, 19]
        [⟨some 26, none, .ia 1 (.t 22) (.t 25)⟩,
        ⟨some 27, none, .ld (.t 26)⟩,
        ⟨some 37, none, .build [.i .i64 0, .i .i64 0] [(0, 1, .t 27), (1, 1, .t 36)]⟩]
      (.one 22 ⟨none, none, .st 2 (.t 4) (.t 37)⟩ [] []
        []
      .fin))))) (.one 15 ⟨some 33, none, .call (.k (.fn n_spec_l20Rd_pick [] [])) [.t 32, .k (.i .i64 9)]⟩ [] [16, 20, 21]
        [⟨some 34, none, .bin .quo (.t 33) (.k (.i .i64 8))⟩,
        ⟨some 2, none, .mv (.t 18)⟩,
        ⟨some 3, none, .mv (.t 19)⟩]
      (.alt (.one 4 ⟨some 22, none, .bsl ty_int [.i .i64 0] 2 [(0, 1, .t 21), (1, 1, .k (.i .i64 (-1)))]⟩ [] [8, 9]
        [⟨some 26, none, .ia 1 (.t 22) (.t 25)⟩,
        ⟨some 27, none, .ld (.t 26)⟩]
      (.one 13 ⟨some 31, none, .bsl ty_int [.i .i64 0] 2 [(0, 1, .t 30), (1, 1, .k (.i .i64 0))]⟩ [(27, none, 26)] [17, 18, 19]
        [⟨some 35, none, .ia 1 (.t 31) (.t 34)⟩,
        ⟨some 36, none, .ld (.t 35)⟩,
        ⟨some 37, none, .build [.i .i64 0, .i .i64 0] [(0, 1, .t 27), (1, 1, .t 36)]⟩]
      (.one 22 ⟨none, none, .st 2 (.t 4) (.t 37)⟩ [] []
        []
      .fin))) (.one 13 ⟨some 31, none, .bsl ty_int [.i .i64 0] 2 [(0, 1, .t 30), (1, 1, .k (.i .i64 0))]⟩ [] [17, 18]
        [⟨some 35, none, .ia 1 (.t 31) (.t 34)⟩,
        ⟨some 36, none, .ld (.t 35)⟩]
      (.one 4 ⟨some 22, none, .bsl ty_int [.i .i64 0] 2 [(0, 1, .t 21), (1, 1, .k (.i .i64 (-1)))]⟩ [(36, none, 35)] [8, 9, 19]
        [⟨some 26, none, .ia 1 (.t 22) (.t 25)⟩,
        ⟨some 27, none, .ld (.t 26)⟩,
        ⟨some 37, none, .build [.i .i64 0, .i .i64 0] [(0, 1, .t 27), (1, 1, .t 36)]⟩]
      (.one 22 ⟨none, none, .st 2 (.t 4) (.t 37)⟩ [] []
        []
      .fin)))))))))))))
    (.ret)))))
theorem k_spec_DrawStealSlack : chkF Try.prog Try.f49 38 c_spec_DrawStealSlack [.t 2, .t 3, .c 4 (some 2)] = true := by kernel_rfl
theorem call_spec_DrawStealSlack {args : List AV} {σ : List AB} {K : AV → List AB → Prop} (hn : args.length ≤ 38) (hw : wpC Try.prog σ.length 38 c_spec_DrawStealSlack (retP σ.length [.t 2, .t 3, .c 4 (some 2)] K) ⟨initT 0 args, σ⟩) : CallWp Try.prog n_spec_DrawStealSlack args σ K := call_fn mixed Try.func49 k_spec_DrawStealSlack hn hw

-- loop.example/deadlinescheduler/impl.StealSlack
-- a cut
-- l0_impl_StealSlack: live at the head: 1 5 7 8 33 34 35 36 37
def l0_impl_StealSlack : LC := .seq (.seq (.ops [⟨some 30, none, .ld (.t 8)⟩,
      ⟨some 31, none, .bin .lss (.t 30) (.k (.i .i64 120))⟩,
      ⟨some 32, none, .mv (.t 31)⟩,
      ⟨some 33, (some (32, true)), .ld (.t 7)⟩,
      ⟨some 34, (some (32, true)), .len (.t 33)⟩,
      ⟨some 35, (some (32, true)), .fa 1 (.t 5)⟩,
      ⟨some 36, (some (32, true)), .ld (.t 35)⟩,
      ⟨some 37, (some (32, true)), .bin .lss (.t 34) (.t 36)⟩,
      ⟨some 38, none, .pick (.t 32) (.t 37) (.k (.b false))⟩])
    (.cond (.t 38) (.skip)
    (.exit 0)))
    (.join (.block 1 (.seq (.ops [⟨some 41, none, .mv (.t 1)⟩,
      ⟨some 42, none, .mkf n_impl_StealSlack_1 [] [.t 8, .t 7]⟩,
      ⟨some 43, none, .call (.k (.fn n_impl_paused [] [])) [.t 41, .t 42]⟩,
      ⟨some 9, none, .alloc ty_impl_Schedule [.sn, .sn]⟩,
      ⟨none, none, .st 2 (.t 9) (.t 43)⟩])
    (.seq (.ops [⟨some 44, none, .mv (.t 1)⟩,
      ⟨some 45, none, .ldn 2 (.t 9)⟩,
      ⟨some 46, none, .call (.k (.fn n_impl_Missed [] [])) [.t 44, .t 45]⟩,
      ⟨some 47, none, .len (.t 46)⟩,
      ⟨some 48, none, .bin .eql (.t 47) (.k (.i .i64 0))⟩])
    (.cond (.t 48) (.ops [⟨some 49, none, .ld (.t 7)⟩,
      ⟨some 50, none, .ld (.t 8)⟩,
      ⟨some 51, none, .bsl ty_int [.i .i64 0] 1 [(0, 1, .t 50)]⟩,
      ⟨some 52, none, .app ty_int 1 8 (.t 49) (.t 51)⟩,
      ⟨none, none, .st 1 (.t 7) (.t 52)⟩])
    (.skip)))))
    (.seq (.seq (.ops [⟨some 53, none, .ld (.t 8)⟩])
    (.ops [⟨some 8, none, .alloc ty_int [.i .i64 0]⟩,
      ⟨none, none, .st 1 (.t 8) (.t 53)⟩]))
    (.ops [⟨some 39, none, .ld (.t 8)⟩,
      ⟨some 40, none, .bin .add (.t 39) (.k (.i .i64 1))⟩,
      ⟨none, none, .st 1 (.t 8) (.t 40)⟩])))
def c_impl_StealSlack : LC := .seq (.ops [⟨some 5, none, .box ty_impl_Arrival (.t 2)⟩,
      ⟨some 6, none, .mv (.k (.sn))⟩])
    (.seq (.seq (.ops [⟨some 10, none, .mv (.t 0)⟩,
      ⟨some 11, none, .mv (.t 1)⟩,
      ⟨some 12, none, .call (.k (.fn n_impl_JobsLegal [] [])) [.t 10, .t 11]⟩,
      ⟨some 13, none, .not (.t 12)⟩,
      ⟨some 14, none, .mv (.t 13)⟩,
      ⟨some 15, (some (14, false)), .ldn 2 (.t 5)⟩,
      ⟨some 16, (some (14, false)), .bsl ty_impl_Arrival [.i .i64 0, .i .i64 0] 1 [(0, 2, .t 15)]⟩,
      ⟨some 17, (some (14, false)), .call (.k (.fn n_impl_ArrivalsLegal [] [])) [.t 16]⟩,
      ⟨some 18, (some (14, false)), .not (.t 17)⟩,
      ⟨some 19, none, .pick (.t 14) (.k (.b true)) (.t 18)⟩,
      ⟨some 20, none, .mv (.t 19)⟩,
      ⟨some 21, (some (20, false)), .mv (.t 1)⟩,
      ⟨some 22, (some (20, false)), .mv (.t 1)⟩,
      ⟨some 23, (some (20, false)), .call (.k (.fn n_impl_simulate [] [])) [.t 22, .k (.fn n_impl_edf [] [])]⟩,
      ⟨some 24, (some (20, false)), .call (.k (.fn n_impl_Missed [] [])) [.t 21, .t 23]⟩,
      ⟨some 25, (some (20, false)), .len (.t 24)⟩,
      ⟨some 26, (some (20, false)), .bin .gtr (.t 25) (.k (.i .i64 0))⟩,
      ⟨some 27, none, .pick (.t 20) (.k (.b true)) (.t 26)⟩])
    (.cond (.t 27) (.seq (.ops [⟨some 6, none, .mv (.k (.sn))⟩])
    (.ret))
    (.skip)))
    (.seq (.ops [⟨some 7, none, .alloc ty_sl_int [.sn]⟩])
    (.seq (.seq (.ops [⟨some 28, none, .fa 0 (.t 5)⟩,
      ⟨some 29, none, .ld (.t 28)⟩,
      ⟨some 8, none, .alloc ty_int [.i .i64 0]⟩,
      ⟨none, none, .st 1 (.t 8) (.t 29)⟩])
    (.block 0 (.loop l0_impl_StealSlack)))
    (.seq (.ops [⟨some 54, none, .ld (.t 7)⟩,
      ⟨some 55, none, .call (.k (.fn n_slices_Clip_int [] [])) [.t 54]⟩,
      ⟨some 6, none, .mv (.t 55)⟩])
    (.ret)))))
theorem k_impl_StealSlack : chkF Try.prog Try.f50 56 c_impl_StealSlack [.t 6] = true := by kernel_rfl
theorem call_impl_StealSlack {args : List AV} {σ : List AB} {K : AV → List AB → Prop} (hn : args.length ≤ 56) (hw : wpC Try.prog σ.length 56 c_impl_StealSlack (retP σ.length [.t 6] K) ⟨initT 0 args, σ⟩) : CallWp Try.prog n_impl_StealSlack args σ K := call_fn mixed Try.func50 k_impl_StealSlack hn hw

-- loop.example/deadlinescheduler/spec.StealSlack
-- l0_spec_StealSlack: live at the head: 1 5 7 8 35 36 37 38 39
def l0_spec_StealSlack : LC := .seq (.seq (.ops [⟨some 32, none, .mv (.t 8)⟩,
      ⟨some 33, none, .bin .lss (.t 32) (.k (.i .i64 120))⟩,
      ⟨some 34, none, .mv (.t 33)⟩,
      ⟨some 35, (some (34, true)), .mv (.t 7)⟩,
      ⟨some 36, (some (34, true)), .len (.t 35)⟩,
      ⟨some 37, (some (34, true)), .fa 1 (.t 5)⟩,
      ⟨some 38, (some (34, true)), .ld (.t 37)⟩,
      ⟨some 39, (some (34, true)), .bin .lss (.t 36) (.t 38)⟩,
      ⟨some 40, none, .pick (.t 34) (.t 39) (.k (.b false))⟩])
    (.cond (.t 40) (.skip)
    (.exit 0)))
    (.seq (.block 1 (.seq (.ops [⟨some 43, none, .bsl ty_int [.i .i64 0] 0 []⟩,
      ⟨some 44, none, .mv (.t 7)⟩,
      ⟨some 45, none, .app ty_int 1 8 (.t 43) (.t 44)⟩,
      ⟨some 46, none, .mv (.t 8)⟩,
      ⟨some 47, none, .bsl ty_int [.i .i64 0] 1 [(0, 1, .t 46)]⟩,
      ⟨some 48, none, .app ty_int 1 8 (.t 45) (.t 47)⟩,
      ⟨some 9, none, .mv (.t 48)⟩])
    (.seq (.ops [⟨some 49, none, .mv (.t 1)⟩,
      ⟨some 50, none, .mv (.t 9)⟩,
      ⟨some 51, none, .call (.k (.fn n_spec_l17Fits [] [])) [.t 49, .t 50]⟩])
    (.cond (.t 51) (.ops [⟨some 52, none, .mv (.t 9)⟩,
      ⟨some 7, none, .mv (.t 52)⟩])
    (.skip)))))
    (.ops [⟨some 41, none, .mv (.t 8)⟩,
      ⟨some 42, none, .bin .add (.t 41) (.k (.i .i64 1))⟩,
      ⟨some 8, none, .mv (.t 42)⟩]))
def c_spec_StealSlack : LC := .seq (.ops [⟨some 5, none, .box ty_impl_Arrival (.t 2)⟩,
      ⟨some 6, none, .mv (.k (.sn))⟩])
    (.seq (.ops [⟨some 10, none, .bsl ty_int [.i .i64 0] 0 []⟩,
      ⟨some 7, none, .mv (.t 10)⟩])
    (.seq (.seq (.ops [⟨some 11, none, .mv (.t 0)⟩,
      ⟨some 12, none, .mv (.t 1)⟩,
      ⟨some 13, none, .call (.k (.fn n_spec_JobsLegal [] [])) [.t 11, .t 12]⟩,
      ⟨some 14, none, .not (.t 13)⟩,
      ⟨some 15, none, .mv (.t 14)⟩,
      ⟨some 16, (some (15, false)), .ldn 2 (.t 5)⟩,
      ⟨some 17, (some (15, false)), .bsl ty_impl_Arrival [.i .i64 0, .i .i64 0] 1 [(0, 2, .t 16)]⟩,
      ⟨some 18, (some (15, false)), .call (.k (.fn n_spec_ArrivalsLegal [] [])) [.t 17]⟩,
      ⟨some 19, (some (15, false)), .not (.t 18)⟩,
      ⟨some 20, none, .pick (.t 15) (.k (.b true)) (.t 19)⟩,
      ⟨some 21, none, .mv (.t 20)⟩,
      ⟨some 22, (some (21, false)), .mv (.t 1)⟩,
      ⟨some 23, (some (21, false)), .mv (.t 1)⟩,
      ⟨some 24, (some (21, false)), .call (.k (.fn n_spec_l17Run [] [])) [.t 23, .k (.i .i64 0), .k (.i .i64 0)]⟩,
      ⟨some 25, (some (21, false)), .call (.k (.fn n_spec_l3Missed [] [])) [.t 22, .t 24]⟩,
      ⟨some 26, (some (21, false)), .len (.t 25)⟩,
      ⟨some 27, (some (21, false)), .bin .gtr (.t 26) (.k (.i .i64 0))⟩,
      ⟨some 28, none, .pick (.t 21) (.k (.b true)) (.t 27)⟩])
    (.cond (.t 28) (.seq (.ops [⟨some 29, none, .mv (.t 7)⟩,
      ⟨some 6, none, .mv (.t 29)⟩])
    (.ret))
    (.skip)))
    (.seq (.seq (.ops [⟨some 30, none, .fa 0 (.t 5)⟩,
      ⟨some 31, none, .ld (.t 30)⟩,
      ⟨some 8, none, .mv (.t 31)⟩])
    (.block 0 (.loop l0_spec_StealSlack)))
    (.seq (.ops [⟨some 53, none, .mv (.t 7)⟩,
      ⟨some 6, none, .mv (.t 53)⟩])
    (.ret)))))
theorem k_spec_StealSlack : chkF Try.prog Try.f51 54 c_spec_StealSlack [.t 6] = true := by kernel_rfl
theorem call_spec_StealSlack {args : List AV} {σ : List AB} {K : AV → List AB → Prop} (hn : args.length ≤ 54) (hw : wpC Try.prog σ.length 54 c_spec_StealSlack (retP σ.length [.t 6] K) ⟨initT 0 args, σ⟩) : CallWp Try.prog n_spec_StealSlack args σ K := call_fn mixed Try.func51 k_spec_StealSlack hn hw

-- loop.example/deadlinescheduler/spec.ArrivalsLegal
-- region 4 draws, 34 of 34 first
-- l0_spec_ArrivalsLegal: live at the head: 0 3 18 19 20 21 22 23 24 27 28 29 30 31 32 33 34 35 36 37 38 39 40 41 42
def l0_spec_ArrivalsLegal : LC := .seq (.seq (.ops [⟨some 4, none, .mv (.t 3)⟩,
      ⟨some 5, none, .mv (.t 0)⟩,
      ⟨some 6, none, .len (.t 5)⟩,
      ⟨some 7, none, .bin .lss (.t 4) (.t 6)⟩])
    (.cond (.t 7) (.skip)
    (.exit 0)))
    (.seq (.block 1 (.seq (.draw 34 [⟨some 10, none, .mv (.t 0)⟩,
      ⟨some 11, none, .mv (.t 3)⟩,
      ⟨some 12, none, .ia 2 (.t 10) (.t 11)⟩,
      ⟨some 13, none, .fa 0 (.t 12)⟩,
      ⟨some 14, none, .ld (.t 13)⟩,
      ⟨some 15, none, .call (.k (.fn n_spec_l1In [] [])) [.t 14, .k (.i .i64 0), .k (.i .i64 119)]⟩,
      ⟨some 16, none, .not (.t 15)⟩,
      ⟨some 17, none, .mv (.t 16)⟩,
      ⟨some 18, (some (17, false)), .mv (.t 0)⟩,
      ⟨some 19, (some (17, false)), .mv (.t 3)⟩,
      ⟨some 20, (some (17, false)), .ia 2 (.t 18) (.t 19)⟩,
      ⟨some 21, (some (17, false)), .fa 1 (.t 20)⟩,
      ⟨some 22, (some (17, false)), .ld (.t 21)⟩,
      ⟨some 23, (some (17, false)), .call (.k (.fn n_spec_l1In [] [])) [.t 22, .k (.i .i64 1), .k (.i .i64 20)]⟩,
      ⟨some 24, (some (17, false)), .not (.t 23)⟩,
      ⟨some 25, none, .pick (.t 17) (.k (.b true)) (.t 24)⟩,
      ⟨some 26, none, .mv (.t 25)⟩,
      ⟨some 27, (some (26, false)), .mv (.t 3)⟩,
      ⟨some 28, (some (26, false)), .bin .gtr (.t 27) (.k (.i .i64 0))⟩,
      ⟨some 29, (some (26, false)), .mv (.t 28)⟩,
      ⟨some 30, (some (29, true)), .mv (.t 0)⟩,
      ⟨some 31, (some (29, true)), .mv (.t 3)⟩,
      ⟨some 32, (some (29, true)), .bin .sub (.t 31) (.k (.i .i64 1))⟩,
      ⟨some 33, (some (29, true)), .ia 2 (.t 30) (.t 32)⟩,
      ⟨some 34, (some (29, true)), .fa 0 (.t 33)⟩,
      ⟨some 35, (some (29, true)), .ld (.t 34)⟩,
      ⟨some 36, (some (29, true)), .mv (.t 0)⟩,
      ⟨some 37, (some (29, true)), .mv (.t 3)⟩,
      ⟨some 38, (some (29, true)), .ia 2 (.t 36) (.t 37)⟩,
      ⟨some 39, (some (29, true)), .fa 0 (.t 38)⟩,
      ⟨some 40, (some (29, true)), .ld (.t 39)⟩,
      ⟨some 41, (some (29, true)), .bin .gtr (.t 35) (.t 40)⟩,
      ⟨some 42, (some (26, false)), .pick (.t 29) (.t 41) (.k (.b false))⟩,
      ⟨some 43, none, .pick (.t 26) (.k (.b true)) (.t 42)⟩])
    (.cond (.t 43) (.seq (.ops [⟨some 2, none, .mv (.k (.b false))⟩])
    (.ret))
    (.skip))))
    (.ops [⟨some 8, none, .mv (.t 3)⟩,
      ⟨some 9, none, .bin .add (.t 8) (.k (.i .i64 1))⟩,
      ⟨some 3, none, .mv (.t 9)⟩]))
def c_spec_ArrivalsLegal : LC := .seq (.ops [⟨some 2, none, .mv (.k (.b false))⟩])
    (.seq (.seq (.ops [⟨some 3, none, .mv (.k (.i .i64 0))⟩])
    (.block 0 (.loop l0_spec_ArrivalsLegal)))
    (.seq (.ops [⟨some 44, none, .mv (.t 0)⟩,
      ⟨some 45, none, .len (.t 44)⟩,
      ⟨some 46, none, .bin .leq (.t 45) (.k (.i .i64 20))⟩,
      ⟨some 2, none, .mv (.t 46)⟩])
    (.ret)))
theorem k_spec_ArrivalsLegal : chkF Try.prog Try.f52 47 c_spec_ArrivalsLegal [.t 2] = true := by kernel_rfl
theorem call_spec_ArrivalsLegal {args : List AV} {σ : List AB} {K : AV → List AB → Prop} (hn : args.length ≤ 47) (hw : wpC Try.prog σ.length 47 c_spec_ArrivalsLegal (retP σ.length [.t 2] K) ⟨initT 0 args, σ⟩) : CallWp Try.prog n_spec_ArrivalsLegal args σ K := call_fn mixed Try.func52 k_spec_ArrivalsLegal hn hw

-- loop.example/deadlinescheduler/spec.DrawRunEdf
def c_spec_DrawRunEdf : LC := .seq (.ops [⟨some 2, none, .mv (.k (.sn))⟩,
      ⟨some 3, none, .mv (.k (.sn))⟩])
    (.seq (.ops [⟨some 6, none, .mv (.t 0)⟩,
      ⟨some 7, none, .call (.k (.fn n_spec_l20Open [] [])) [.t 6]⟩,
      ⟨some 4, none, .mv (.t 7)⟩])
    (.seq (.ops [⟨some 8, none, .mv (.t 4)⟩,
      ⟨some 9, none, .call (.k (.fn n_spec_l20Set [] [])) [.t 8, .k (.i .i64 20)]⟩,
      ⟨some 5, none, .mv (.t 9)⟩])
    (.seq (.seq (.ops [⟨some 10, none, .mv (.t 5)⟩,
      ⟨some 11, none, .call (.k (.fn n_spec_SetValid [] [])) [.t 10]⟩,
      ⟨some 12, none, .not (.t 11)⟩])
    (.cond (.t 12) (.seq (.ops [⟨some 13, none, .mv (.t 5)⟩,
      ⟨some 14, none, .bsl ty_impl_Job [.i .i64 0, .i .i64 0, .i .i64 0, .i .i64 0] 0 []⟩,
      ⟨some 2, none, .mv (.t 13)⟩,
      ⟨some 3, none, .mv (.t 14)⟩])
    (.ret))
    (.skip)))
    (.seq (.ops [⟨some 15, none, .mv (.t 5)⟩,
      ⟨some 16, none, .mv (.t 4)⟩,
      ⟨some 17, none, .mv (.t 5)⟩,
      ⟨some 18, none, .call (.k (.fn n_spec_l20Jobs [] [])) [.t 16, .t 17, .k (.i .i64 16)]⟩,
      ⟨some 2, none, .mv (.t 15)⟩,
      ⟨some 3, none, .mv (.t 18)⟩])
    (.ret)))))
theorem k_spec_DrawRunEdf : chkF Try.prog Try.f53 19 c_spec_DrawRunEdf [.t 2, .t 3] = true := by kernel_rfl
theorem call_spec_DrawRunEdf {args : List AV} {σ : List AB} {K : AV → List AB → Prop} (hn : args.length ≤ 19) (hw : wpC Try.prog σ.length 19 c_spec_DrawRunEdf (retP σ.length [.t 2, .t 3] K) ⟨initT 0 args, σ⟩) : CallWp Try.prog n_spec_DrawRunEdf args σ K := call_fn mixed Try.func53 k_spec_DrawRunEdf hn hw

-- loop.example/deadlinescheduler/spec.RunEdf
def c_spec_RunEdf : LC := .seq (.ops [⟨some 4, none, .alloc ty_impl_Schedule [.sn, .sn]⟩])
    (.seq (.seq (.ops [⟨some 5, none, .mv (.t 0)⟩,
      ⟨some 6, none, .mv (.t 1)⟩,
      ⟨some 7, none, .call (.k (.fn n_spec_JobsLegal [] [])) [.t 5, .t 6]⟩,
      ⟨some 8, none, .not (.t 7)⟩])
    (.cond (.t 8) (.seq (.ops [⟨some 9, none, .build [.sn, .sn] []⟩,
      ⟨none, none, .st 2 (.t 4) (.t 9)⟩])
    (.ret))
    (.skip)))
    (.seq (.ops [⟨some 10, none, .mv (.t 1)⟩,
      ⟨some 11, none, .mv (.t 1)⟩,
      ⟨some 12, none, .call (.k (.fn n_spec_l3Deadlines [] [])) [.t 11]⟩,
      ⟨some 13, none, .call (.k (.fn n_spec_l3Run [] [])) [.t 10, .t 12]⟩,
      ⟨none, none, .st 2 (.t 4) (.t 13)⟩])
    (.ret)))
theorem k_spec_RunEdf : chkF Try.prog Try.f54 14 c_spec_RunEdf [.c 4 (some 2)] = true := by kernel_rfl
theorem call_spec_RunEdf {args : List AV} {σ : List AB} {K : AV → List AB → Prop} (hn : args.length ≤ 14) (hw : wpC Try.prog σ.length 14 c_spec_RunEdf (retP σ.length [.c 4 (some 2)] K) ⟨initT 0 args, σ⟩) : CallWp Try.prog n_spec_RunEdf args σ K := call_fn mixed Try.func54 k_spec_RunEdf hn hw

-- loop.example/deadlinescheduler/laws.ticks
-- l0_laws_ticks: live at the head: 0 1 5 6
def l0_laws_ticks : LC := .seq (.seq (.ops [⟨some 7, none, .mv (.t 6)⟩,
      ⟨some 8, none, .mv (.t 0)⟩,
      ⟨some 9, none, .len (.t 8)⟩,
      ⟨some 10, none, .bin .lss (.t 7) (.t 9)⟩])
    (.cond (.t 10) (.skip)
    (.exit 0)))
    (.seq (.block 1 (.seq (.ops [⟨some 13, none, .mv (.t 0)⟩,
      ⟨some 14, none, .mv (.t 6)⟩,
      ⟨some 15, none, .ia 1 (.t 13) (.t 14)⟩,
      ⟨some 16, none, .ld (.t 15)⟩,
      ⟨some 17, none, .mv (.t 1)⟩,
      ⟨some 18, none, .bin .eql (.t 16) (.t 17)⟩])
    (.cond (.t 18) (.ops [⟨some 19, none, .mv (.t 5)⟩,
      ⟨some 20, none, .bin .add (.t 19) (.k (.i .i64 1))⟩,
      ⟨some 5, none, .mv (.t 20)⟩])
    (.skip))))
    (.ops [⟨some 11, none, .mv (.t 6)⟩,
      ⟨some 12, none, .bin .add (.t 11) (.k (.i .i64 1))⟩,
      ⟨some 6, none, .mv (.t 12)⟩]))
def c_laws_ticks : LC := .seq (.ops [⟨some 4, none, .mv (.k (.i .i64 0))⟩])
    (.seq (.ops [⟨some 5, none, .mv (.k (.i .i64 0))⟩])
    (.seq (.seq (.ops [⟨some 6, none, .mv (.k (.i .i64 0))⟩])
    (.block 0 (.loop l0_laws_ticks)))
    (.seq (.ops [⟨some 21, none, .mv (.t 5)⟩,
      ⟨some 4, none, .mv (.t 21)⟩])
    (.ret))))
theorem k_laws_ticks : chkF Try.prog Try.f55 22 c_laws_ticks [.t 4] = true := by kernel_rfl
theorem call_laws_ticks {args : List AV} {σ : List AB} {K : AV → List AB → Prop} (hn : args.length ≤ 22) (hw : wpC Try.prog σ.length 22 c_laws_ticks (retP σ.length [.t 4] K) ⟨initT 0 args, σ⟩) : CallWp Try.prog n_laws_ticks args σ K := call_fn mixed Try.func55 k_laws_ticks hn hw

-- loop.example/deadlinescheduler/impl.EdfFeasible
def c_impl_EdfFeasible : LC := .seq (.ops [⟨some 2, none, .mv (.k (.b false))⟩])
    (.seq (.ops [⟨some 3, none, .mv (.t 0)⟩,
      ⟨some 4, none, .call (.k (.fn n_impl_SetValid [] [])) [.t 3]⟩,
      ⟨some 5, none, .mv (.t 4)⟩,
      ⟨some 6, (some (5, true)), .mv (.t 0)⟩,
      ⟨some 7, (some (5, true)), .call (.k (.fn n_impl_feasible [] [])) [.t 6]⟩,
      ⟨some 8, none, .pick (.t 5) (.t 7) (.k (.b false))⟩,
      ⟨some 2, none, .mv (.t 8)⟩])
    (.ret))
theorem k_impl_EdfFeasible : chkF Try.prog Try.f56 9 c_impl_EdfFeasible [.t 2] = true := by kernel_rfl
theorem call_impl_EdfFeasible {args : List AV} {σ : List AB} {K : AV → List AB → Prop} (hn : args.length ≤ 9) (hw : wpC Try.prog σ.length 9 c_impl_EdfFeasible (retP σ.length [.t 2] K) ⟨initT 0 args, σ⟩) : CallWp Try.prog n_impl_EdfFeasible args σ K := call_fn mixed Try.func56 k_impl_EdfFeasible hn hw

-- loop.example/deadlinescheduler/spec.l20Open
-- a cut
def c_spec_l20Open : LC := .seq (.ops [⟨some 2, none, .mv (.k (.pn))⟩])
    (.join (.seq (.ops [⟨some 3, none, .mv (.t 0)⟩,
      ⟨some 4, none, .len (.t 3)⟩,
      ⟨some 5, none, .bin .gtr (.t 4) (.k (.i .i64 2000))⟩])
    (.cond (.t 5) (.ops [⟨some 6, none, .mv (.t 0)⟩,
      ⟨some 7, none, .slc 1 (.t 6) none (some (.k (.i .i64 2000))) none⟩,
      ⟨some 0, none, .mv (.t 7)⟩])
    (.skip)))
    (.seq (.ops [⟨some 8, none, .mv (.t 0)⟩,
      ⟨some 9, none, .build [.sn, .i .i64 0] [(0, 1, .t 8)]⟩,
      ⟨some 10, none, .box ty_spec_l20Rd (.t 9)⟩,
      ⟨some 2, none, .mv (.t 10)⟩])
    (.ret)))
theorem k_spec_l20Open : chkF Try.prog Try.f57 11 c_spec_l20Open [.t 2] = true := by kernel_rfl
theorem call_spec_l20Open {args : List AV} {σ : List AB} {K : AV → List AB → Prop} (hn : args.length ≤ 11) (hw : wpC Try.prog σ.length 11 c_spec_l20Open (retP σ.length [.t 2] K) ⟨initT 0 args, σ⟩) : CallWp Try.prog n_spec_l20Open args σ K := call_fn mixed Try.func57 k_spec_l20Open hn hw

-- loop.example/deadlinescheduler/spec.l20Set
-- a cut
-- l1_spec_l20Set: live at the head: 0 1 5 6
-- l0_spec_l20Set: live at the head: 0 5
def l0_spec_l20Set : LC := .seq (.seq (.ops [⟨some 25, none, .mv (.t 5)⟩,
      ⟨some 26, none, .len (.t 25)⟩,
      ⟨some 27, none, .bin .leq (.t 26) (.k (.i .i64 5))⟩])
    (.cond (.t 27) (.skip)
    (.exit 2)))
    (.block 3 (.ops [⟨some 28, none, .mv (.t 5)⟩,
      ⟨some 29, none, .mv (.t 0)⟩,
      ⟨some 30, none, .call (.k (.fn n_spec_l20Task [] [])) [.t 29, .k (.i .i64 0)]⟩,
      ⟨some 31, none, .bsl ty_impl_Task [.i .i64 0, .i .i64 0, .i .i64 0] 1 [(0, 3, .t 30)]⟩,
      ⟨some 32, none, .app ty_impl_Task 3 24 (.t 28) (.t 31)⟩,
      ⟨some 5, none, .mv (.t 32)⟩]))
def l1_spec_l20Set : LC := .seq (.seq (.ops [⟨some 10, none, .mv (.t 6)⟩,
      ⟨some 11, none, .bin .gtr (.t 10) (.k (.i .i64 0))⟩])
    (.cond (.t 11) (.skip)
    (.exit 0)))
    (.seq (.block 1 (.ops [⟨some 14, none, .mv (.t 5)⟩,
      ⟨some 15, none, .mv (.t 0)⟩,
      ⟨some 16, none, .call (.k (.fn n_spec_l20Task [] [])) [.t 15, .k (.i .i64 0)]⟩,
      ⟨some 17, none, .bsl ty_impl_Task [.i .i64 0, .i .i64 0, .i .i64 0] 1 [(0, 3, .t 16)]⟩,
      ⟨some 18, none, .app ty_impl_Task 3 24 (.t 14) (.t 17)⟩,
      ⟨some 5, none, .mv (.t 18)⟩]))
    (.ops [⟨some 12, none, .mv (.t 6)⟩,
      ⟨some 13, none, .bin .sub (.t 12) (.k (.i .i64 1))⟩,
      ⟨some 6, none, .mv (.t 13)⟩]))
def c_spec_l20Set : LC := .seq (.ops [⟨some 4, none, .mv (.k (.sn))⟩])
    (.seq (.ops [⟨some 7, none, .bsl ty_impl_Task [.i .i64 0, .i .i64 0, .i .i64 0] 0 []⟩,
      ⟨some 5, none, .mv (.t 7)⟩])
    (.seq (.seq (.ops [⟨some 8, none, .mv (.t 0)⟩,
      ⟨some 9, none, .call (.k (.fn n_spec_l20Rd_pick [] [])) [.t 8, .k (.i .i64 6)]⟩,
      ⟨some 6, none, .mv (.t 9)⟩])
    (.block 0 (.loop l1_spec_l20Set)))
    (.join (.seq (.ops [⟨some 19, none, .mv (.t 0)⟩,
      ⟨some 20, none, .mv (.t 1)⟩,
      ⟨some 21, none, .call (.k (.fn n_spec_l20Rd_odd [] [])) [.t 19, .t 20]⟩])
    (.cond (.t 21) (.seq (.seq (.ops [⟨some 22, none, .mv (.t 0)⟩,
      ⟨some 23, none, .call (.k (.fn n_spec_l20Rd_pick [] [])) [.t 22, .k (.i .i64 3)]⟩,
      ⟨some 24, none, .bin .eql (.t 23) (.k (.i .i64 0))⟩])
    (.cond (.t 24) (.block 2 (.loop l0_spec_l20Set))
    (.skip)))
    (.ops [⟨some 33, none, .mv (.t 5)⟩,
      ⟨some 34, none, .mv (.t 0)⟩,
      ⟨some 35, none, .call (.k (.fn n_spec_l20Task [] [])) [.t 34, .k (.i .i64 2)]⟩,
      ⟨some 36, none, .bsl ty_impl_Task [.i .i64 0, .i .i64 0, .i .i64 0] 1 [(0, 3, .t 35)]⟩,
      ⟨some 37, none, .app ty_impl_Task 3 24 (.t 33) (.t 36)⟩,
      ⟨some 5, none, .mv (.t 37)⟩]))
    (.skip)))
    (.seq (.ops [⟨some 38, none, .mv (.t 5)⟩,
      ⟨some 4, none, .mv (.t 38)⟩])
    (.ret)))))
theorem k_spec_l20Set : chkF Try.prog Try.f58 39 c_spec_l20Set [.t 4] = true := by kernel_rfl
theorem call_spec_l20Set {args : List AV} {σ : List AB} {K : AV → List AB → Prop} (hn : args.length ≤ 39) (hw : wpC Try.prog σ.length 39 c_spec_l20Set (retP σ.length [.t 4] K) ⟨initT 0 args, σ⟩) : CallWp Try.prog n_spec_l20Set args σ K := call_fn mixed Try.func58 k_spec_l20Set hn hw

-- loop.example/deadlinescheduler/spec.l20Jitter
-- region 5: a plan with 1 orders
-- a cut
-- l0_spec_l20Jitter: live at the head: 0 1 2 7 8 42 43 44
def l0_spec_l20Jitter : LC := .seq (.seq (.ops [⟨some 10, none, .mv (.t 8)⟩,
      ⟨some 11, none, .mv (.t 1)⟩,
      ⟨some 12, none, .len (.t 11)⟩,
      ⟨some 13, none, .bin .lss (.t 10) (.t 12)⟩])
    (.cond (.t 13) (.skip)
    (.exit 0)))
    (.seq (.block 1 (.plan [0, 1, 2, 3, 4, 5, 6, 7, 8, 9, 10, 11, 12, 13, 14, 15] [⟨some 16, none, .mv (.t 7)⟩,
      ⟨some 17, none, .mv (.t 0)⟩,
      ⟨some 18, none, .mv (.t 1)⟩,
      ⟨some 19, none, .mv (.t 8)⟩,
      ⟨some 20, none, .ia 3 (.t 18) (.t 19)⟩,
      ⟨some 21, none, .fa 1 (.t 20)⟩,
      ⟨some 22, none, .ld (.t 21)⟩,
      ⟨some 23, none, .mv (.t 1)⟩,
      ⟨some 24, none, .mv (.t 8)⟩,
      ⟨some 25, none, .ia 3 (.t 23) (.t 24)⟩,
      ⟨some 26, none, .fa 0 (.t 25)⟩,
      ⟨some 27, none, .ld (.t 26)⟩,
      ⟨some 28, none, .bin .sub (.t 22) (.t 27)⟩,
      ⟨some 29, none, .bin .add (.t 28) (.k (.i .i64 1))⟩,
      ⟨some 30, none, .mn (.k (.i .i64 5)) (.t 29)⟩,
      ⟨some 31, none, .mx (.k (.i .i64 1)) (.t 30)⟩]
      (.one 16 ⟨some 32, none, .call (.k (.fn n_spec_l20Rd_pick [] [])) [.t 17, .t 31]⟩ [(22, none, 21), (27, none, 26)] []
        []
      (.one 17 ⟨some 33, none, .bsl ty_int [.i .i64 0] 1 [(0, 1, .t 32)]⟩ [(22, none, 21), (27, none, 26)] []
        []
      (.one 18 ⟨some 34, none, .app ty_int 1 8 (.t 16) (.t 33)⟩ [(22, none, 21), (27, none, 26)] []
        []
      (.one 19 ⟨some 7, none, .mv (.t 34)⟩ [] []
        []
      .fin))))))
    (.ops [⟨some 14, none, .mv (.t 8)⟩,
      ⟨some 15, none, .bin .add (.t 14) (.k (.i .i64 1))⟩,
      ⟨some 8, none, .mv (.t 15)⟩]))
def c_spec_l20Jitter : LC := .seq (.ops [⟨some 6, none, .mv (.k (.sn))⟩])
    (.seq (.ops [⟨some 9, none, .bsl ty_int [.i .i64 0] 0 []⟩,
      ⟨some 7, none, .mv (.t 9)⟩])
    (.seq (.seq (.ops [⟨some 8, none, .mv (.k (.i .i64 0))⟩])
    (.block 0 (.loop l0_spec_l20Jitter)))
    (.join (.seq (.ops [⟨some 35, none, .mv (.t 0)⟩,
      ⟨some 36, none, .mv (.t 2)⟩,
      ⟨some 37, none, .call (.k (.fn n_spec_l20Rd_odd [] [])) [.t 35, .t 36]⟩])
    (.cond (.t 37) (.seq (.seq (.ops [⟨some 38, none, .mv (.t 7)⟩,
      ⟨some 39, none, .len (.t 38)⟩,
      ⟨some 40, none, .bin .eql (.t 39) (.k (.i .i64 0))⟩,
      ⟨some 41, none, .mv (.t 40)⟩,
      ⟨some 42, (some (41, false)), .mv (.t 0)⟩,
      ⟨some 43, (some (41, false)), .call (.k (.fn n_spec_l20Rd_pick [] [])) [.t 42, .k (.i .i64 2)]⟩,
      ⟨some 44, (some (41, false)), .bin .eql (.t 43) (.k (.i .i64 0))⟩,
      ⟨some 45, none, .pick (.t 41) (.k (.b true)) (.t 44)⟩])
    (.cond (.t 45) (.seq (.ops [⟨some 46, none, .mv (.t 7)⟩,
      ⟨some 47, none, .bsl ty_int [.i .i64 0] 1 [(0, 1, .k (.i .i64 0))]⟩,
      ⟨some 48, none, .app ty_int 1 8 (.t 46) (.t 47)⟩,
      ⟨some 6, none, .mv (.t 48)⟩])
    (.ret))
    (.skip)))
    (.ops [⟨some 49, none, .mv (.t 7)⟩,
      ⟨some 50, none, .mv (.t 0)⟩,
      ⟨some 51, none, .mv (.t 7)⟩,
      ⟨some 52, none, .len (.t 51)⟩,
      ⟨some 53, none, .call (.k (.fn n_spec_l20Rd_pick [] [])) [.t 50, .t 52]⟩,
      ⟨some 54, none, .bsl ty_int [.i .i64 0] 2 [(0, 1, .k (.i .i64 (-1))), (1, 1, .k (.i .i64 12))]⟩,
      ⟨some 55, none, .mv (.t 0)⟩,
      ⟨some 56, none, .call (.k (.fn n_spec_l20Rd_pick [] [])) [.t 55, .k (.i .i64 2)]⟩,
      ⟨some 57, none, .ia 1 (.t 54) (.t 56)⟩,
      ⟨some 58, none, .ld (.t 57)⟩,
      ⟨some 59, none, .ia 1 (.t 49) (.t 53)⟩,
      ⟨none, none, .st 1 (.t 59) (.t 58)⟩]))
    (.skip)))
    (.seq (.ops [⟨some 60, none, .mv (.t 7)⟩,
      ⟨some 6, none, .mv (.t 60)⟩])
    (.ret)))))
theorem k_spec_l20Jitter : chkF Try.prog Try.f59 61 c_spec_l20Jitter [.t 6] = true := by kernel_rfl
theorem call_spec_l20Jitter {args : List AV} {σ : List AB} {K : AV → List AB → Prop} (hn : args.length ≤ 61) (hw : wpC Try.prog σ.length 61 c_spec_l20Jitter (retP σ.length [.t 6] K) ⟨initT 0 args, σ⟩) : CallWp Try.prog n_spec_l20Jitter args σ K := call_fn mixed Try.func59 k_spec_l20Jitter hn hw

-- loop.example/deadlinescheduler/spec.l20Order
-- region 6: a plan with 1 orders
-- a cut
-- a cut
-- l0_spec_l20Order: live at the head: 0 1 2 7 8 37 38 39
def l0_spec_l20Order : LC := .seq (.seq (.ops [⟨some 11, none, .mv (.t 8)⟩,
      ⟨some 12, none, .mv (.t 1)⟩,
      ⟨some 13, none, .bin .lss (.t 11) (.t 12)⟩])
    (.cond (.t 13) (.skip)
    (.exit 0)))
    (.seq (.block 1 (.seq (.ops [⟨some 16, none, .mv (.t 0)⟩,
      ⟨some 17, none, .mv (.t 8)⟩,
      ⟨some 18, none, .bin .add (.t 17) (.k (.i .i64 1))⟩,
      ⟨some 19, none, .call (.k (.fn n_spec_l20Rd_pick [] [])) [.t 16, .t 18]⟩,
      ⟨some 9, none, .mv (.t 19)⟩])
    (.plan [0, 1, 2, 3, 5, 6, 7] [⟨some 20, none, .mv (.t 7)⟩,
      ⟨some 21, none, .mv (.t 9)⟩,
      ⟨some 22, none, .slc 1 (.t 20) none (some (.t 21)) none⟩,
      ⟨some 23, none, .mv (.t 8)⟩,
      ⟨some 25, none, .mv (.t 7)⟩,
      ⟨some 26, none, .mv (.t 9)⟩,
      ⟨some 27, none, .slc 1 (.t 25) (some (.t 26)) none none⟩]
      (.one 4 ⟨some 24, none, .bsl ty_int [.i .i64 0] 1 [(0, 1, .t 23)]⟩ [] []
        []
      (.one 8 ⟨some 28, none, .app ty_int 1 8 (.t 24) (.t 27)⟩ [] []
        []
      (.one 9 ⟨some 29, none, .app ty_int 1 8 (.t 22) (.t 28)⟩ [] []
        []
      (.one 10 ⟨some 7, none, .mv (.t 29)⟩ [] []
        []
      .fin)))))))
    (.ops [⟨some 14, none, .mv (.t 8)⟩,
      ⟨some 15, none, .bin .add (.t 14) (.k (.i .i64 1))⟩,
      ⟨some 8, none, .mv (.t 15)⟩]))
def c_spec_l20Order : LC := .seq (.ops [⟨some 6, none, .mv (.k (.sn))⟩])
    (.seq (.ops [⟨some 10, none, .bsl ty_int [.i .i64 0] 0 []⟩,
      ⟨some 7, none, .mv (.t 10)⟩])
    (.seq (.seq (.ops [⟨some 8, none, .mv (.k (.i .i64 0))⟩])
    (.block 0 (.loop l0_spec_l20Order)))
    (.join (.seq (.ops [⟨some 30, none, .mv (.t 0)⟩,
      ⟨some 31, none, .mv (.t 2)⟩,
      ⟨some 32, none, .call (.k (.fn n_spec_l20Rd_odd [] [])) [.t 30, .t 31]⟩])
    (.cond (.t 32) (.seq (.join (.ops [⟨some 33, none, .mv (.t 7)⟩,
      ⟨some 34, none, .len (.t 33)⟩,
      ⟨some 35, none, .bin .eql (.t 34) (.k (.i .i64 0))⟩,
      ⟨some 36, none, .mv (.t 35)⟩,
      ⟨some 37, (some (36, false)), .mv (.t 0)⟩,
      ⟨some 38, (some (36, false)), .call (.k (.fn n_spec_l20Rd_pick [] [])) [.t 37, .k (.i .i64 2)]⟩,
      ⟨some 39, (some (36, false)), .bin .eql (.t 38) (.k (.i .i64 0))⟩,
      ⟨some 40, none, .pick (.t 36) (.k (.b true)) (.t 39)⟩])
    (.cond (.t 40) (.seq (.ops [⟨some 41, none, .mv (.t 7)⟩,
      ⟨some 42, none, .mv (.t 0)⟩,
      ⟨some 43, none, .call (.k (.fn n_spec_l20Rd_pick [] [])) [.t 42, .k (.i .i64 3)]⟩,
      ⟨some 44, none, .bsl ty_int [.i .i64 0] 1 [(0, 1, .t 43)]⟩,
      ⟨some 45, none, .app ty_int 1 8 (.t 41) (.t 44)⟩,
      ⟨some 6, none, .mv (.t 45)⟩])
    (.ret))
    (.skip)))
    (.ops [⟨some 46, none, .mv (.t 7)⟩,
      ⟨some 47, none, .mv (.t 0)⟩,
      ⟨some 48, none, .mv (.t 7)⟩,
      ⟨some 49, none, .len (.t 48)⟩,
      ⟨some 50, none, .call (.k (.fn n_spec_l20Rd_pick [] [])) [.t 47, .t 49]⟩,
      ⟨some 51, none, .mv (.t 1)⟩,
      ⟨some 52, none, .bsl ty_int [.i .i64 0] 3 [(0, 1, .k (.i .i64 (-1))), (1, 1, .t 51), (2, 1, .k (.i .i64 0))]⟩,
      ⟨some 53, none, .mv (.t 0)⟩,
      ⟨some 54, none, .call (.k (.fn n_spec_l20Rd_pick [] [])) [.t 53, .k (.i .i64 3)]⟩,
      ⟨some 55, none, .ia 1 (.t 52) (.t 54)⟩,
      ⟨some 56, none, .ld (.t 55)⟩,
      ⟨some 57, none, .ia 1 (.t 46) (.t 50)⟩,
      ⟨none, none, .st 1 (.t 57) (.t 56)⟩]))
    (.skip)))
    (.seq (.ops [⟨some 58, none, .mv (.t 7)⟩,
      ⟨some 6, none, .mv (.t 58)⟩])
    (.ret)))))
theorem k_spec_l20Order : chkF Try.prog Try.f60 59 c_spec_l20Order [.t 6] = true := by kernel_rfl
theorem call_spec_l20Order {args : List AV} {σ : List AB} {K : AV → List AB → Prop} (hn : args.length ≤ 59) (hw : wpC Try.prog σ.length 59 c_spec_l20Order (retP σ.length [.t 6] K) ⟨initT 0 args, σ⟩) : CallWp Try.prog n_spec_l20Order args σ K := call_fn mixed Try.func60 k_spec_l20Order hn hw

-- loop.example/deadlinescheduler/spec.SetValid
-- l0_spec_SetValid: live at the head: 0 3
def l0_spec_SetValid : LC := .seq (.seq (.ops [⟨some 4, none, .mv (.t 3)⟩,
      ⟨some 5, none, .mv (.t 0)⟩,
      ⟨some 6, none, .len (.t 5)⟩,
      ⟨some 7, none, .bin .lss (.t 4) (.t 6)⟩])
    (.cond (.t 7) (.skip)
    (.exit 0)))
    (.seq (.block 1 (.seq (.ops [⟨some 10, none, .mv (.t 0)⟩,
      ⟨some 11, none, .mv (.t 3)⟩,
      ⟨some 12, none, .ia 3 (.t 10) (.t 11)⟩,
      ⟨some 13, none, .ldn 3 (.t 12)⟩,
      ⟨some 14, none, .call (.k (.fn n_spec_TaskValid [] [])) [.t 13]⟩,
      ⟨some 15, none, .not (.t 14)⟩])
    (.cond (.t 15) (.seq (.ops [⟨some 2, none, .mv (.k (.b false))⟩])
    (.ret))
    (.skip))))
    (.ops [⟨some 8, none, .mv (.t 3)⟩,
      ⟨some 9, none, .bin .add (.t 8) (.k (.i .i64 1))⟩,
      ⟨some 3, none, .mv (.t 9)⟩]))
def c_spec_SetValid : LC := .seq (.ops [⟨some 2, none, .mv (.k (.b false))⟩])
    (.seq (.seq (.ops [⟨some 3, none, .mv (.k (.i .i64 0))⟩])
    (.block 0 (.loop l0_spec_SetValid)))
    (.seq (.ops [⟨some 16, none, .mv (.t 0)⟩,
      ⟨some 17, none, .len (.t 16)⟩,
      ⟨some 18, none, .bin .leq (.t 17) (.k (.i .i64 5))⟩,
      ⟨some 2, none, .mv (.t 18)⟩])
    (.ret)))
theorem k_spec_SetValid : chkF Try.prog Try.f61 19 c_spec_SetValid [.t 2] = true := by kernel_rfl
theorem call_spec_SetValid {args : List AV} {σ : List AB} {K : AV → List AB → Prop} (hn : args.length ≤ 19) (hw : wpC Try.prog σ.length 19 c_spec_SetValid (retP σ.length [.t 2] K) ⟨initT 0 args, σ⟩) : CallWp Try.prog n_spec_SetValid args σ K := call_fn mixed Try.func61 k_spec_SetValid hn hw

end Go.Proofs.Ytdmoafmgeipenaa
