import Derived.Test.YtdmoafmgeipenaaProg
import Derived.Test.YtdmoafmgeipenaaAbsY
import Derived.KernelRfl
namespace Go.Proofs.Ytdmoafmgeipenaa
open Go.Abs
set_option maxRecDepth 100000
theorem mixed : Try.prog.follows .mixedOrders = true := by kernel_rfl
abbrev n_laws_FnStealSlack : Nat := 10
abbrev n_laws_alive : Nat := 19
abbrev n_impl_Missed : Nat := 21
abbrev n_laws_sameInts : Nat := 23
abbrev n_impl_Slack : Nat := 42
abbrev n_impl_RunEdf : Nat := 46
abbrev n_spec_JobsLegal : Nat := 48
abbrev n_spec_DrawStealSlack : Nat := 49
abbrev n_impl_StealSlack : Nat := 50
abbrev n_spec_StealSlack : Nat := 51
abbrev n_spec_ArrivalsLegal : Nat := 52
abbrev n_spec_DrawRunEdf : Nat := 53
abbrev n_spec_l20Open : Nat := 57
abbrev n_spec_l20Set : Nat := 58
abbrev n_spec_SetValid : Nat := 61
abbrev n_impl_simulate : Nat := 65
abbrev n_spec_l4Index : Nat := 69
abbrev n_impl_TaskValid : Nat := 71
abbrev n_impl_missed : Nat := 74
abbrev n_impl_SetValid : Nat := 77
abbrev n_impl_in : Nat := 78
abbrev n_impl_JobsLegal : Nat := 80
abbrev n_spec_l1In : Nat := 86
abbrev n_spec_l3Missed : Nat := 87
abbrev n_spec_l17Run : Nat := 88
abbrev n_impl_pause : Nat := 89
abbrev n_spec_l20Rd_pick : Nat := 90
abbrev n_impl_edf : Nat := 91
abbrev n_impl_ArrivalsLegal : Nat := 92
abbrev n_impl_paused : Nat := 93
abbrev n_impl_StealSlack_1 : Nat := 94
abbrev n_slices_Contains_int : Nat := 95
abbrev n_slices_Clip_int : Nat := 96
abbrev n_spec_l17Fits : Nat := 97
abbrev n_spec_l20Jobs : Nat := 98
abbrev n_spec_l3Deadlines : Nat := 99
abbrev n_spec_l20Task : Nat := 101
abbrev n_spec_l20Rd_odd : Nat := 102
abbrev n_spec_TaskValid : Nat := 103
abbrev n_impl_ordered : Nat := 104
abbrev n_impl_spaced : Nat := 107
abbrev n_slices_Index_int : Nat := 110
abbrev n_impl_newMachine : Nat := 111
abbrev n_impl_none : Nat := 112
abbrev n_impl_machine_best : Nat := 114
abbrev n_impl_machine_any : Nat := 116
abbrev n_spec_l3Best : Nat := 117
abbrev n_slices_ContainsFunc_impl_Task : Nat := 119
abbrev n_impl_SetValid_1 : Nat := 120
abbrev n_impl_JobsLegal_1 : Nat := 121
abbrev n_impl_release : Nat := 122
abbrev n_impl_JobsLegal_2 : Nat := 123
abbrev n_slices_ContainsFunc_impl_Job : Nat := 124
abbrev n_impl_JobsLegal_3 : Nat := 125
abbrev n_impl_pause_1 : Nat := 126
abbrev n_impl_machine_deadline : Nat := 127
abbrev n_impl_paused_1 : Nat := 128
abbrev n_slices_Repeat_int : Nat := 130
abbrev n_impl_machine_ready : Nat := 131
abbrev n_slices_IndexFunc_impl_Task : Nat := 133
abbrev n_slices_IndexFunc_impl_Job : Nat := 134
abbrev n_math_bits_Mul : Nat := 137
abbrev n_math_bits_Mul32 : Nat := 139
abbrev n_math_bits_Mul64 : Nat := 140
abbrev ty_int : Nat := 3
abbrev ty_sl_impl_Task : Nat := 23
abbrev ty_sl_int : Nat := 24
abbrev ty_impl_Schedule : Nat := 29
abbrev ty_impl_Task : Nat := 35
abbrev ty_impl_Job : Nat := 37
abbrev ty_impl_Arrival : Nat := 70
abbrev ty_spec_l20Rd : Nat := 104
abbrev ty_func_int_bool : Nat := 108
abbrev ty_impl_machine : Nat := 121
def l0_laws_FnStealSlack : LC := .seq (.seq (.draw 16 [⟨some 104, none, .mv (.t 8)⟩,
      ⟨some 105, none, .mv (.t 6)⟩,
      ⟨some 106, none, .len (.t 105)⟩,
      ⟨some 107, none, .bin .lss (.t 104) (.t 106)⟩,
      ⟨some 108, none, .mv (.t 107)⟩,
      ⟨some 109, (some (108, true)), .mv (.t 6)⟩,
      ⟨some 110, (some (108, true)), .mv (.t 8)⟩,
      ⟨some 111, (some (108, true)), .ia 1 (.t 109) (.t 110)⟩,
      ⟨some 112, (some (108, true)), .ld (.t 111)⟩,
      ⟨some 113, (some (108, true)), .mv (.t 6)⟩,
      ⟨some 114, (some (108, true)), .ia 1 (.t 113) (.k (.i .i64 0))⟩,
      ⟨some 115, (some (108, true)), .ld (.t 114)⟩,
      ⟨some 116, (some (108, true)), .mv (.t 8)⟩,
      ⟨some 117, (some (108, true)), .bin .add (.t 115) (.t 116)⟩,
      ⟨some 118, (some (108, true)), .bin .eql (.t 112) (.t 117)⟩,
      ⟨some 119, none, .pick (.t 108) (.t 118) (.k (.b false))⟩])
    (.cond (.t 119) (.skip)
    (.exit 2)))
    (.block 3 (.ops [⟨some 120, none, .mv (.t 8)⟩,
      ⟨some 121, none, .bin .add (.t 120) (.k (.i .i64 1))⟩,
      ⟨some 8, none, .mv (.t 121)⟩]))
def l1_laws_FnStealSlack : LC := .seq (.seq (.ops [⟨some 59, none, .mv (.t 7)⟩,
      ⟨some 60, none, .mv (.t 6)⟩,
      ⟨some 61, none, .len (.t 60)⟩,
      ⟨some 62, none, .bin .lss (.t 59) (.t 61)⟩])
    (.cond (.t 62) (.skip)
    (.exit 0)))
    (.seq (.block 1 (.seq (.draw 30 [⟨some 65, none, .mv (.t 6)⟩,
      ⟨some 66, none, .mv (.t 7)⟩,
      ⟨some 67, none, .ia 1 (.t 65) (.t 66)⟩,
      ⟨some 68, none, .ld (.t 67)⟩,
      ⟨some 69, none, .fa 0 (.t 5)⟩,
      ⟨some 70, none, .ld (.t 69)⟩,
      ⟨some 71, none, .bin .lss (.t 68) (.t 70)⟩,
      ⟨some 72, none, .mv (.t 71)⟩,
      ⟨some 73, (some (72, false)), .mv (.t 6)⟩,
      ⟨some 74, (some (72, false)), .mv (.t 7)⟩,
      ⟨some 75, (some (72, false)), .ia 1 (.t 73) (.t 74)⟩,
      ⟨some 76, (some (72, false)), .ld (.t 75)⟩,
      ⟨some 77, (some (72, false)), .bin .geq (.t 76) (.k (.i .i64 120))⟩,
      ⟨some 78, none, .pick (.t 72) (.k (.b true)) (.t 77)⟩,
      ⟨some 79, none, .mv (.t 78)⟩,
      ⟨some 80, (some (79, false)), .mv (.t 7)⟩,
      ⟨some 81, (some (79, false)), .bin .gtr (.t 80) (.k (.i .i64 0))⟩,
      ⟨some 82, (some (79, false)), .mv (.t 81)⟩,
      ⟨some 83, (some (82, true)), .mv (.t 6)⟩,
      ⟨some 84, (some (82, true)), .mv (.t 7)⟩,
      ⟨some 85, (some (82, true)), .bin .sub (.t 84) (.k (.i .i64 1))⟩,
      ⟨some 86, (some (82, true)), .ia 1 (.t 83) (.t 85)⟩,
      ⟨some 87, (some (82, true)), .ld (.t 86)⟩,
      ⟨some 88, (some (82, true)), .mv (.t 6)⟩,
      ⟨some 89, (some (82, true)), .mv (.t 7)⟩,
      ⟨some 90, (some (82, true)), .ia 1 (.t 88) (.t 89)⟩,
      ⟨some 91, (some (82, true)), .ld (.t 90)⟩,
      ⟨some 92, (some (82, true)), .bin .geq (.t 87) (.t 91)⟩,
      ⟨some 93, (some (79, false)), .pick (.t 82) (.t 92) (.k (.b false))⟩,
      ⟨some 94, none, .pick (.t 79) (.k (.b true)) (.t 93)⟩])
    (.cond (.t 94) (.seq (.ops [⟨some 2, none, .mv (.k (.b false))⟩])
    (.ret))
    (.skip))))
    (.ops [⟨some 63, none, .mv (.t 7)⟩,
      ⟨some 64, none, .bin .add (.t 63) (.k (.i .i64 1))⟩,
      ⟨some 7, none, .mv (.t 64)⟩]))
def c_laws_FnStealSlack : LC := .seq (.ops [⟨some 2, none, .mv (.k (.b false))⟩])
    (.seq (.seq (.ops [⟨some 9, none, .mv (.t 0)⟩,
      ⟨some 10, none, .len (.t 9)⟩,
      ⟨some 11, none, .bin .gtr (.t 10) (.k (.i .i64 1048576))⟩])
    (.cond (.t 11) (.seq (.ops [⟨some 2, none, .mv (.k (.b true))⟩])
    (.ret))
    (.skip)))
    (.seq (.ops [⟨some 13, none, .mv (.t 0)⟩,
      ⟨some 14, none, .call (.k (.fn n_spec_DrawStealSlack [] [])) [.t 13]⟩,
      ⟨some 12, none, .mv (.t 14)⟩,
      ⟨some 15, none, .ext 0 (.t 12)⟩,
      ⟨some 16, none, .ext 1 (.t 12)⟩,
      ⟨some 17, none, .ext 2 (.t 12)⟩,
      ⟨some 5, none, .alloc ty_impl_Arrival [.i .i64 0, .i .i64 0]⟩,
      ⟨some 3, none, .mv (.t 15)⟩,
      ⟨some 4, none, .mv (.t 16)⟩,
      ⟨none, none, .st 2 (.t 5) (.t 17)⟩])
    (.seq (.ops [⟨some 18, none, .mv (.t 3)⟩,
      ⟨some 19, none, .mv (.t 4)⟩,
      ⟨some 20, none, .ldn 2 (.t 5)⟩,
      ⟨some 21, none, .call (.k (.fn n_impl_StealSlack [] [])) [.t 18, .t 19, .t 20]⟩,
      ⟨some 6, none, .mv (.t 21)⟩])
    (.seq (.seq (.ops [⟨some 22, none, .mv (.t 6)⟩,
      ⟨some 23, none, .mv (.t 3)⟩,
      ⟨some 24, none, .mv (.t 4)⟩,
      ⟨some 25, none, .ldn 2 (.t 5)⟩,
      ⟨some 26, none, .call (.k (.fn n_spec_StealSlack [] [])) [.t 23, .t 24, .t 25]⟩,
      ⟨some 27, none, .call (.k (.fn n_laws_sameInts [] [])) [.t 22, .t 26]⟩,
      ⟨some 28, none, .not (.t 27)⟩])
    (.cond (.t 28) (.seq (.ops [⟨some 2, none, .mv (.k (.b false))⟩])
    (.ret))
    (.skip)))
    (.seq (.seq (.ops [⟨some 29, none, .mv (.t 3)⟩,
      ⟨some 30, none, .mv (.t 4)⟩,
      ⟨some 31, none, .call (.k (.fn n_spec_JobsLegal [] [])) [.t 29, .t 30]⟩,
      ⟨some 32, none, .not (.t 31)⟩,
      ⟨some 33, none, .mv (.t 32)⟩,
      ⟨some 34, (some (33, false)), .ldn 2 (.t 5)⟩,
      ⟨some 35, (some (33, false)), .bsl ty_impl_Arrival [.i .i64 0, .i .i64 0] 1 [(0, 2, .t 34)]⟩,
      ⟨some 36, (some (33, false)), .call (.k (.fn n_spec_ArrivalsLegal [] [])) [.t 35]⟩,
      ⟨some 37, (some (33, false)), .not (.t 36)⟩,
      ⟨some 38, none, .pick (.t 33) (.k (.b true)) (.t 37)⟩,
      ⟨some 39, none, .mv (.t 38)⟩,
      ⟨some 40, (some (39, false)), .mv (.t 4)⟩,
      ⟨some 41, (some (39, false)), .mv (.t 3)⟩,
      ⟨some 42, (some (39, false)), .mv (.t 4)⟩,
      ⟨some 43, (some (39, false)), .call (.k (.fn n_impl_RunEdf [] [])) [.t 41, .t 42]⟩,
      ⟨some 44, (some (39, false)), .call (.k (.fn n_impl_Missed [] [])) [.t 40, .t 43]⟩,
      ⟨some 45, (some (39, false)), .len (.t 44)⟩,
      ⟨some 46, (some (39, false)), .bin .gtr (.t 45) (.k (.i .i64 0))⟩,
      ⟨some 47, none, .pick (.t 39) (.k (.b true)) (.t 46)⟩])
    (.cond (.t 47) (.seq (.ops [⟨some 48, none, .mv (.t 6)⟩,
      ⟨some 49, none, .len (.t 48)⟩,
      ⟨some 50, none, .bin .eql (.t 49) (.k (.i .i64 0))⟩,
      ⟨some 51, none, .mv (.t 50)⟩,
      ⟨some 52, (some (51, true)), .call (.k (.fn n_laws_alive [] [])) []⟩,
      ⟨some 53, none, .pick (.t 51) (.t 52) (.k (.b false))⟩,
      ⟨some 2, none, .mv (.t 53)⟩])
    (.ret))
    (.skip)))
    (.seq (.seq (.ops [⟨some 54, none, .mv (.t 6)⟩,
      ⟨some 55, none, .len (.t 54)⟩,
      ⟨some 56, none, .fa 1 (.t 5)⟩,
      ⟨some 57, none, .ld (.t 56)⟩,
      ⟨some 58, none, .bin .gtr (.t 55) (.t 57)⟩])
    (.cond (.t 58) (.seq (.ops [⟨some 2, none, .mv (.k (.b false))⟩])
    (.ret))
    (.skip)))
    (.seq (.seq (.ops [⟨some 7, none, .mv (.k (.i .i64 0))⟩])
    (.block 0 (.loop l1_laws_FnStealSlack)))
    (.seq (.seq (.ops [⟨some 95, none, .mv (.t 6)⟩,
      ⟨some 96, none, .len (.t 95)⟩,
      ⟨some 97, none, .bin .eql (.t 96) (.k (.i .i64 0))⟩])
    (.cond (.t 97) (.seq (.ops [⟨some 98, none, .mv (.t 3)⟩,
      ⟨some 99, none, .mv (.t 4)⟩,
      ⟨some 100, none, .fa 0 (.t 5)⟩,
      ⟨some 101, none, .ld (.t 100)⟩,
      ⟨some 102, none, .call (.k (.fn n_impl_Slack [] [])) [.t 98, .t 99, .t 101]⟩,
      ⟨some 103, none, .bin .eql (.t 102) (.k (.i .i64 0))⟩,
      ⟨some 2, none, .mv (.t 103)⟩])
    (.ret))
    (.skip)))
    (.seq (.ops [⟨some 8, none, .mv (.k (.i .i64 1))⟩])
    (.seq (.block 2 (.loop l0_laws_FnStealSlack))
    (.seq (.draw 24 [⟨some 122, none, .mv (.t 3)⟩,
      ⟨some 123, none, .mv (.t 4)⟩,
      ⟨some 124, none, .mv (.t 6)⟩,
      ⟨some 125, none, .ia 1 (.t 124) (.k (.i .i64 0))⟩,
      ⟨some 126, none, .ld (.t 125)⟩,
      ⟨some 127, none, .call (.k (.fn n_impl_Slack [] [])) [.t 122, .t 123, .t 126]⟩,
      ⟨some 128, none, .mv (.t 8)⟩,
      ⟨some 129, none, .bin .geq (.t 127) (.t 128)⟩,
      ⟨some 130, none, .mv (.t 129)⟩,
      ⟨some 131, (some (130, true)), .mv (.t 6)⟩,
      ⟨some 132, (some (130, true)), .ia 1 (.t 131) (.k (.i .i64 0))⟩,
      ⟨some 133, (some (130, true)), .ld (.t 132)⟩,
      ⟨some 134, (some (130, true)), .fa 0 (.t 5)⟩,
      ⟨some 135, (some (130, true)), .ld (.t 134)⟩,
      ⟨some 136, (some (130, true)), .bin .eql (.t 133) (.t 135)⟩,
      ⟨some 137, (some (130, true)), .mv (.t 136)⟩,
      ⟨some 138, (some (137, false)), .mv (.t 3)⟩,
      ⟨some 139, (some (137, false)), .mv (.t 4)⟩,
      ⟨some 140, (some (137, false)), .fa 0 (.t 5)⟩,
      ⟨some 141, (some (137, false)), .ld (.t 140)⟩,
      ⟨some 142, (some (137, false)), .call (.k (.fn n_impl_Slack [] [])) [.t 138, .t 139, .t 141]⟩,
      ⟨some 143, (some (137, false)), .bin .eql (.t 142) (.k (.i .i64 0))⟩,
      ⟨some 144, (some (130, true)), .pick (.t 137) (.k (.b true)) (.t 143)⟩,
      ⟨some 145, none, .pick (.t 130) (.t 144) (.k (.b false))⟩,
      ⟨some 2, none, .mv (.t 145)⟩])
    (.ret))))))))))))
theorem k_laws_FnStealSlack : chkF Try.prog Try.f10 146 c_laws_FnStealSlack [.t 2] = true := by kernel_rfl
theorem call_laws_FnStealSlack {args : List AV} {σ : List AB} {K : AV → List AB → Prop} (hn : args.length ≤ 146) (hw : wpC Try.prog σ.length 146 c_laws_FnStealSlack (retP σ.length [.t 2] K) ⟨initT 0 args, σ⟩) : CallWp Try.prog n_laws_FnStealSlack args σ K := call_fn mixed Try.func10 k_laws_FnStealSlack hn hw
def c_laws_alive : LC := .seq (.ops [⟨some 0, none, .mv (.k (.b false))⟩])
    (.seq (.ops [⟨some 1, none, .build [.i .i64 0, .i .i64 0, .i .i64 0] [(0, 1, .k (.i .i64 1)), (1, 1, .k (.i .i64 1)), (2, 1, .k (.i .i64 1))]⟩,
      ⟨some 2, none, .call (.k (.fn n_impl_TaskValid [] [])) [.t 1]⟩,
      ⟨some 0, none, .mv (.t 2)⟩])
    (.ret))
theorem k_laws_alive : chkF Try.prog Try.f19 3 c_laws_alive [.t 0] = true := by kernel_rfl
theorem call_laws_alive {args : List AV} {σ : List AB} {K : AV → List AB → Prop} (hn : args.length ≤ 3) (hw : wpC Try.prog σ.length 3 c_laws_alive (retP σ.length [.t 0] K) ⟨initT 0 args, σ⟩) : CallWp Try.prog n_laws_alive args σ K := call_fn mixed Try.func19 k_laws_alive hn hw
def c_impl_Missed : LC := .seq (.ops [⟨some 3, none, .box ty_impl_Schedule (.t 1)⟩,
      ⟨some 4, none, .mv (.k (.sn))⟩])
    (.seq (.ops [⟨some 5, none, .mv (.t 0)⟩,
      ⟨some 6, none, .fa 1 (.t 3)⟩,
      ⟨some 7, none, .ld (.t 6)⟩,
      ⟨some 8, none, .call (.k (.fn n_impl_missed [] [])) [.t 5, .t 7]⟩,
      ⟨some 4, none, .mv (.t 8)⟩])
    (.ret))
theorem k_impl_Missed : chkF Try.prog Try.f21 9 c_impl_Missed [.t 4] = true := by kernel_rfl
theorem callC_impl_Missed {args : List AV} {σ : List AB} {K : AV → List AB → Prop} (hn : args.length ≤ 9) (hw : Closed σ → args.all (below1 σ.length) = true → wpC Try.prog σ.length 9 c_impl_Missed (retP σ.length [.t 4] K) ⟨initT 0 args, σ⟩) : CallWp Try.prog n_impl_Missed args σ K := call_fnC mixed Try.func21 k_impl_Missed hn hw
def l0_laws_sameInts : LC := .seq (.seq (.ops [⟨some 11, none, .mv (.t 5)⟩,
      ⟨some 12, none, .mv (.t 0)⟩,
      ⟨some 13, none, .len (.t 12)⟩,
      ⟨some 14, none, .bin .lss (.t 11) (.t 13)⟩])
    (.cond (.t 14) (.skip)
    (.exit 0)))
    (.seq (.block 1 (.seq (.draw 9 [⟨some 17, none, .mv (.t 0)⟩,
      ⟨some 18, none, .mv (.t 5)⟩,
      ⟨some 19, none, .ia 1 (.t 17) (.t 18)⟩,
      ⟨some 20, none, .ld (.t 19)⟩,
      ⟨some 21, none, .mv (.t 1)⟩,
      ⟨some 22, none, .mv (.t 5)⟩,
      ⟨some 23, none, .ia 1 (.t 21) (.t 22)⟩,
      ⟨some 24, none, .ld (.t 23)⟩,
      ⟨some 25, none, .bin .neq (.t 20) (.t 24)⟩])
    (.cond (.t 25) (.seq (.ops [⟨some 4, none, .mv (.k (.b false))⟩])
    (.ret))
    (.skip))))
    (.ops [⟨some 15, none, .mv (.t 5)⟩,
      ⟨some 16, none, .bin .add (.t 15) (.k (.i .i64 1))⟩,
      ⟨some 5, none, .mv (.t 16)⟩]))
def c_laws_sameInts : LC := .seq (.ops [⟨some 4, none, .mv (.k (.b false))⟩])
    (.seq (.seq (.ops [⟨some 6, none, .mv (.t 0)⟩,
      ⟨some 7, none, .len (.t 6)⟩,
      ⟨some 8, none, .mv (.t 1)⟩,
      ⟨some 9, none, .len (.t 8)⟩,
      ⟨some 10, none, .bin .neq (.t 7) (.t 9)⟩])
    (.cond (.t 10) (.seq (.ops [⟨some 4, none, .mv (.k (.b false))⟩])
    (.ret))
    (.skip)))
    (.seq (.seq (.ops [⟨some 5, none, .mv (.k (.i .i64 0))⟩])
    (.block 0 (.loop l0_laws_sameInts)))
    (.seq (.ops [⟨some 4, none, .mv (.k (.b true))⟩])
    (.ret))))
theorem k_laws_sameInts : chkF Try.prog Try.f23 26 c_laws_sameInts [.t 4] = true := by kernel_rfl
theorem call_laws_sameInts {args : List AV} {σ : List AB} {K : AV → List AB → Prop} (hn : args.length ≤ 26) (hw : wpC Try.prog σ.length 26 c_laws_sameInts (retP σ.length [.t 4] K) ⟨initT 0 args, σ⟩) : CallWp Try.prog n_laws_sameInts args σ K := call_fn mixed Try.func23 k_laws_sameInts hn hw
def l0_impl_Slack : LC := .seq (.seq (.ops [⟨some 17, none, .mv (.t 7)⟩,
      ⟨some 18, none, .bin .geq (.t 17) (.k (.i .i64 0))⟩])
    (.cond (.t 18) (.skip)
    (.exit 0)))
    (.seq (.block 1 (.seq (.ops [⟨some 21, none, .mv (.t 1)⟩,
      ⟨some 22, none, .mv (.t 1)⟩,
      ⟨some 23, none, .mv (.t 2)⟩,
      ⟨some 24, none, .mv (.t 7)⟩,
      ⟨some 25, none, .call (.k (.fn n_impl_pause [] [])) [.t 22, .t 23, .t 24]⟩,
      ⟨some 26, none, .call (.k (.fn n_impl_Missed [] [])) [.t 21, .t 25]⟩,
      ⟨some 27, none, .len (.t 26)⟩,
      ⟨some 28, none, .bin .eql (.t 27) (.k (.i .i64 0))⟩])
    (.cond (.t 28) (.seq (.ops [⟨some 29, none, .mv (.t 7)⟩,
      ⟨some 6, none, .mv (.t 29)⟩])
    (.ret))
    (.skip))))
    (.ops [⟨some 19, none, .mv (.t 7)⟩,
      ⟨some 20, none, .bin .sub (.t 19) (.k (.i .i64 1))⟩,
      ⟨some 7, none, .mv (.t 20)⟩]))
def c_impl_Slack : LC := .seq (.ops [⟨some 6, none, .mv (.k (.i .i64 0))⟩])
    (.seq (.seq (.ops [⟨some 8, none, .mv (.t 0)⟩,
      ⟨some 9, none, .mv (.t 1)⟩,
      ⟨some 10, none, .call (.k (.fn n_impl_JobsLegal [] [])) [.t 8, .t 9]⟩,
      ⟨some 11, none, .not (.t 10)⟩,
      ⟨some 12, none, .mv (.t 11)⟩,
      ⟨some 13, (some (12, false)), .mv (.t 2)⟩,
      ⟨some 14, (some (12, false)), .call (.k (.fn n_impl_in [] [])) [.t 13, .k (.i .i64 0), .k (.i .i64 120)]⟩,
      ⟨some 15, (some (12, false)), .not (.t 14)⟩,
      ⟨some 16, none, .pick (.t 12) (.k (.b true)) (.t 15)⟩])
    (.cond (.t 16) (.seq (.ops [⟨some 6, none, .mv (.k (.i .i64 (-1)))⟩])
    (.ret))
    (.skip)))
    (.seq (.seq (.ops [⟨some 7, none, .mv (.k (.i .i64 120))⟩])
    (.block 0 (.loop l0_impl_Slack)))
    (.seq (.ops [⟨some 6, none, .mv (.k (.i .i64 (-1)))⟩])
    (.ret))))
theorem k_impl_Slack : chkF Try.prog Try.f42 30 c_impl_Slack [.t 6] = true := by kernel_rfl
theorem call_impl_Slack {args : List AV} {σ : List AB} {K : AV → List AB → Prop} (hn : args.length ≤ 30) (hw : wpC Try.prog σ.length 30 c_impl_Slack (retP σ.length [.t 6] K) ⟨initT 0 args, σ⟩) : CallWp Try.prog n_impl_Slack args σ K := call_fn mixed Try.func42 k_impl_Slack hn hw
def c_impl_RunEdf : LC := .seq (.ops [⟨some 4, none, .alloc ty_impl_Schedule [.sn, .sn]⟩])
    (.seq (.seq (.ops [⟨some 5, none, .mv (.t 0)⟩,
      ⟨some 6, none, .mv (.t 1)⟩,
      ⟨some 7, none, .call (.k (.fn n_impl_JobsLegal [] [])) [.t 5, .t 6]⟩,
      ⟨some 8, none, .not (.t 7)⟩])
    (.cond (.t 8) (.seq (.ops [⟨some 9, none, .build [.sn, .sn] []⟩,
      ⟨none, none, .st 2 (.t 4) (.t 9)⟩])
    (.ret))
    (.skip)))
    (.seq (.ops [⟨some 10, none, .mv (.t 1)⟩,
      ⟨some 11, none, .call (.k (.fn n_impl_simulate [] [])) [.t 10, .k (.fn n_impl_edf [] [])]⟩,
      ⟨none, none, .st 2 (.t 4) (.t 11)⟩])
    (.ret)))
theorem k_impl_RunEdf : chkF Try.prog Try.f46 12 c_impl_RunEdf [.c 4 (some 2)] = true := by kernel_rfl
theorem call_impl_RunEdf {args : List AV} {σ : List AB} {K : AV → List AB → Prop} (hn : args.length ≤ 12) (hw : wpC Try.prog σ.length 12 c_impl_RunEdf (retP σ.length [.c 4 (some 2)] K) ⟨initT 0 args, σ⟩) : CallWp Try.prog n_impl_RunEdf args σ K := call_fn mixed Try.func46 k_impl_RunEdf hn hw
def l0_spec_JobsLegal : LC := .seq (.seq (.ops [⟨some 20, none, .mv (.t 6)⟩,
      ⟨some 21, none, .mv (.t 1)⟩,
      ⟨some 22, none, .len (.t 21)⟩,
      ⟨some 23, none, .bin .lss (.t 20) (.t 22)⟩])
    (.cond (.t 23) (.skip)
    (.exit 0)))
    (.seq (.block 1 (.seq (.ops [⟨some 26, none, .mv (.t 1)⟩,
      ⟨some 27, none, .mv (.t 6)⟩,
      ⟨some 28, none, .ia 4 (.t 26) (.t 27)⟩,
      ⟨some 29, none, .ldn 4 (.t 28)⟩,
      ⟨some 7, none, .alloc ty_impl_Job [.i .i64 0, .i .i64 0, .i .i64 0, .i .i64 0]⟩,
      ⟨none, none, .st 4 (.t 7) (.t 29)⟩])
    (.seq (.seq (.ops [⟨some 30, none, .fa 0 (.t 7)⟩,
      ⟨some 31, none, .ld (.t 30)⟩,
      ⟨some 32, none, .mv (.t 0)⟩,
      ⟨some 33, none, .len (.t 32)⟩,
      ⟨some 34, none, .bin .sub (.t 33) (.k (.i .i64 1))⟩,
      ⟨some 35, none, .call (.k (.fn n_spec_l1In [] [])) [.t 31, .k (.i .i64 0), .t 34]⟩,
      ⟨some 36, none, .not (.t 35)⟩,
      ⟨some 37, none, .mv (.t 36)⟩,
      ⟨some 38, (some (37, false)), .fa 1 (.t 7)⟩,
      ⟨some 39, (some (37, false)), .ld (.t 38)⟩,
      ⟨some 40, (some (37, false)), .call (.k (.fn n_spec_l1In [] [])) [.t 39, .k (.i .i64 0), .k (.i .i64 119)]⟩,
      ⟨some 41, (some (37, false)), .not (.t 40)⟩,
      ⟨some 42, none, .pick (.t 37) (.k (.b true)) (.t 41)⟩])
    (.cond (.t 42) (.seq (.ops [⟨some 4, none, .mv (.k (.b false))⟩])
    (.ret))
    (.skip)))
    (.seq (.ops [⟨some 43, none, .mv (.t 0)⟩,
      ⟨some 44, none, .fa 0 (.t 7)⟩,
      ⟨some 45, none, .ld (.t 44)⟩,
      ⟨some 46, none, .ia 3 (.t 43) (.t 45)⟩,
      ⟨some 47, none, .ldn 3 (.t 46)⟩,
      ⟨some 8, none, .alloc ty_impl_Task [.i .i64 0, .i .i64 0, .i .i64 0]⟩,
      ⟨none, none, .st 3 (.t 8) (.t 47)⟩])
    (.seq (.seq (.draw 26 [⟨some 48, none, .fa 1 (.t 7)⟩,
      ⟨some 49, none, .ld (.t 48)⟩,
      ⟨some 50, none, .mv (.t 5)⟩,
      ⟨some 51, none, .fa 0 (.t 7)⟩,
      ⟨some 52, none, .ld (.t 51)⟩,
      ⟨some 53, none, .ia 1 (.t 50) (.t 52)⟩,
      ⟨some 54, none, .ld (.t 53)⟩,
      ⟨some 55, none, .bin .lss (.t 49) (.t 54)⟩,
      ⟨some 56, none, .mv (.t 55)⟩,
      ⟨some 57, (some (56, false)), .fa 2 (.t 7)⟩,
      ⟨some 58, (some (56, false)), .ld (.t 57)⟩,
      ⟨some 59, (some (56, false)), .fa 1 (.t 7)⟩,
      ⟨some 60, (some (56, false)), .ld (.t 59)⟩,
      ⟨some 61, (some (56, false)), .fa 1 (.t 8)⟩,
      ⟨some 62, (some (56, false)), .ld (.t 61)⟩,
      ⟨some 63, (some (56, false)), .bin .add (.t 60) (.t 62)⟩,
      ⟨some 64, (some (56, false)), .bin .neq (.t 58) (.t 63)⟩,
      ⟨some 65, none, .pick (.t 56) (.k (.b true)) (.t 64)⟩,
      ⟨some 66, none, .mv (.t 65)⟩,
      ⟨some 67, (some (66, false)), .fa 3 (.t 7)⟩,
      ⟨some 68, (some (66, false)), .ld (.t 67)⟩,
      ⟨some 69, (some (66, false)), .fa 0 (.t 8)⟩,
      ⟨some 70, (some (66, false)), .ld (.t 69)⟩,
      ⟨some 71, (some (66, false)), .call (.k (.fn n_spec_l1In [] [])) [.t 68, .k (.i .i64 1), .t 70]⟩,
      ⟨some 72, (some (66, false)), .not (.t 71)⟩,
      ⟨some 73, none, .pick (.t 66) (.k (.b true)) (.t 72)⟩])
    (.cond (.t 73) (.seq (.ops [⟨some 4, none, .mv (.k (.b false))⟩])
    (.ret))
    (.skip)))
    (.seq (.seq (.draw 35 [⟨some 74, none, .mv (.t 6)⟩,
      ⟨some 75, none, .bin .gtr (.t 74) (.k (.i .i64 0))⟩,
      ⟨some 76, none, .mv (.t 75)⟩,
      ⟨some 77, (some (76, true)), .mv (.t 1)⟩,
      ⟨some 78, (some (76, true)), .mv (.t 6)⟩,
      ⟨some 79, (some (76, true)), .bin .sub (.t 78) (.k (.i .i64 1))⟩,
      ⟨some 80, (some (76, true)), .ia 4 (.t 77) (.t 79)⟩,
      ⟨some 81, (some (76, true)), .fa 1 (.t 80)⟩,
      ⟨some 82, (some (76, true)), .ld (.t 81)⟩,
      ⟨some 83, (some (76, true)), .fa 1 (.t 7)⟩,
      ⟨some 84, (some (76, true)), .ld (.t 83)⟩,
      ⟨some 85, (some (76, true)), .bin .gtr (.t 82) (.t 84)⟩,
      ⟨some 86, (some (76, true)), .mv (.t 85)⟩,
      ⟨some 87, (some (86, false)), .mv (.t 1)⟩,
      ⟨some 88, (some (86, false)), .mv (.t 6)⟩,
      ⟨some 89, (some (86, false)), .bin .sub (.t 88) (.k (.i .i64 1))⟩,
      ⟨some 90, (some (86, false)), .ia 4 (.t 87) (.t 89)⟩,
      ⟨some 91, (some (86, false)), .fa 1 (.t 90)⟩,
      ⟨some 92, (some (86, false)), .ld (.t 91)⟩,
      ⟨some 93, (some (86, false)), .fa 1 (.t 7)⟩,
      ⟨some 94, (some (86, false)), .ld (.t 93)⟩,
      ⟨some 95, (some (86, false)), .bin .eql (.t 92) (.t 94)⟩,
      ⟨some 96, (some (86, false)), .mv (.t 95)⟩,
      ⟨some 97, (some (96, true)), .mv (.t 1)⟩,
      ⟨some 98, (some (96, true)), .mv (.t 6)⟩,
      ⟨some 99, (some (96, true)), .bin .sub (.t 98) (.k (.i .i64 1))⟩,
      ⟨some 100, (some (96, true)), .ia 4 (.t 97) (.t 99)⟩,
      ⟨some 101, (some (96, true)), .fa 0 (.t 100)⟩,
      ⟨some 102, (some (96, true)), .ld (.t 101)⟩,
      ⟨some 103, (some (96, true)), .fa 0 (.t 7)⟩,
      ⟨some 104, (some (96, true)), .ld (.t 103)⟩,
      ⟨some 105, (some (96, true)), .bin .geq (.t 102) (.t 104)⟩,
      ⟨some 106, (some (86, false)), .pick (.t 96) (.t 105) (.k (.b false))⟩,
      ⟨some 107, (some (76, true)), .pick (.t 86) (.k (.b true)) (.t 106)⟩,
      ⟨some 108, none, .pick (.t 76) (.t 107) (.k (.b false))⟩])
    (.cond (.t 108) (.seq (.ops [⟨some 4, none, .mv (.k (.b false))⟩])
    (.ret))
    (.skip)))
    (.ops [⟨some 109, none, .mv (.t 5)⟩,
      ⟨some 110, none, .fa 0 (.t 7)⟩,
      ⟨some 111, none, .ld (.t 110)⟩,
      ⟨some 112, none, .fa 1 (.t 7)⟩,
      ⟨some 113, none, .ld (.t 112)⟩,
      ⟨some 114, none, .fa 2 (.t 8)⟩,
      ⟨some 115, none, .ld (.t 114)⟩,
      ⟨some 116, none, .bin .add (.t 113) (.t 115)⟩,
      ⟨some 117, none, .ia 1 (.t 109) (.t 111)⟩,
      ⟨none, none, .st 1 (.t 117) (.t 116)⟩])))))))
    (.ops [⟨some 24, none, .mv (.t 6)⟩,
      ⟨some 25, none, .bin .add (.t 24) (.k (.i .i64 1))⟩,
      ⟨some 6, none, .mv (.t 25)⟩]))
def c_spec_JobsLegal : LC := .seq (.ops [⟨some 4, none, .mv (.k (.b false))⟩])
    (.seq (.seq (.ops [⟨some 9, none, .mv (.t 0)⟩,
      ⟨some 10, none, .call (.k (.fn n_spec_SetValid [] [])) [.t 9]⟩,
      ⟨some 11, none, .not (.t 10)⟩,
      ⟨some 12, none, .mv (.t 11)⟩,
      ⟨some 13, (some (12, false)), .mv (.t 1)⟩,
      ⟨some 14, (some (12, false)), .len (.t 13)⟩,
      ⟨some 15, (some (12, false)), .bin .gtr (.t 14) (.k (.i .i64 60))⟩,
      ⟨some 16, none, .pick (.t 12) (.k (.b true)) (.t 15)⟩])
    (.cond (.t 16) (.seq (.ops [⟨some 4, none, .mv (.k (.b false))⟩])
    (.ret))
    (.skip)))
    (.seq (.ops [⟨some 17, none, .mv (.t 0)⟩,
      ⟨some 18, none, .len (.t 17)⟩,
      ⟨some 19, none, .msl ty_int 8 [.i .i64 0] (.t 18)⟩,
      ⟨some 5, none, .mv (.t 19)⟩])
    (.seq (.seq (.ops [⟨some 6, none, .mv (.k (.i .i64 0))⟩])
    (.block 0 (.loop l0_spec_JobsLegal)))
    (.seq (.ops [⟨some 4, none, .mv (.k (.b true))⟩])
    (.ret)))))
theorem k_spec_JobsLegal : chkF Try.prog Try.f48 118 c_spec_JobsLegal [.t 4] = true := by kernel_rfl
theorem call_spec_JobsLegal {args : List AV} {σ : List AB} {K : AV → List AB → Prop} (hn : args.length ≤ 118) (hw : wpC Try.prog σ.length 118 c_spec_JobsLegal (retP σ.length [.t 4] K) ⟨initT 0 args, σ⟩) : CallWp Try.prog n_spec_JobsLegal args σ K := call_fn mixed Try.func48 k_spec_JobsLegal hn hw
def c_spec_DrawStealSlack : LC := .seq (.ops [⟨some 2, none, .mv (.k (.sn))⟩,
      ⟨some 3, none, .mv (.k (.sn))⟩,
      ⟨some 4, none, .alloc ty_impl_Arrival [.i .i64 0, .i .i64 0]⟩])
    (.seq (.ops [⟨some 9, none, .mv (.t 0)⟩,
      ⟨some 10, none, .call (.k (.fn n_spec_DrawRunEdf [] [])) [.t 9]⟩,
      ⟨some 8, none, .mv (.t 10)⟩,
      ⟨some 11, none, .ext 0 (.t 8)⟩,
      ⟨some 12, none, .ext 1 (.t 8)⟩,
      ⟨some 5, none, .mv (.t 11)⟩,
      ⟨some 6, none, .mv (.t 12)⟩])
    (.seq (.ops [⟨some 13, none, .mv (.t 0)⟩,
      ⟨some 14, none, .call (.k (.fn n_spec_l20Open [] [])) [.t 13]⟩,
      ⟨some 7, none, .mv (.t 14)⟩])
    (.seq (.ops [⟨some 15, none, .mv (.t 7)⟩,
      ⟨some 16, none, .nilc (.t 15)⟩,
      ⟨some 17, none, .fa 1 (.t 16)⟩,
      ⟨none, none, .st 1 (.t 17) (.k (.i .i64 5))⟩])
    (.seq (.plan [0, 1, 2, 5, 10, 14] [⟨some 18, none, .mv (.t 5)⟩,
      ⟨some 19, none, .mv (.t 6)⟩,
      ⟨some 20, none, .mv (.t 7)⟩,
      ⟨some 23, none, .mv (.t 7)⟩,
      ⟨some 28, none, .mv (.t 7)⟩,
      ⟨some 32, none, .mv (.t 7)⟩]
      (.one 3 ⟨some 21, none, .call (.k (.fn n_spec_l20Rd_pick [] [])) [.t 20, .k (.i .i64 70)]⟩ [] []
        []
      (.alt (.one 4 ⟨some 22, none, .bsl ty_int [.i .i64 0] 2 [(0, 1, .t 21), (1, 1, .k (.i .i64 (-1)))]⟩ [] []
        []
      (.one 6 ⟨some 24, none, .call (.k (.fn n_spec_l20Rd_pick [] [])) [.t 23, .k (.i .i64 9)]⟩ [] [7, 8, 9]
        [⟨some 25, none, .bin .quo (.t 24) (.k (.i .i64 8))⟩,
        ⟨some 26, none, .ia 1 (.t 22) (.t 25)⟩,
        ⟨some 27, none, .ld (.t 26)⟩]
      (.one 11 ⟨some 29, none, .call (.k (.fn n_spec_l20Rd_pick [] [])) [.t 28, .k (.i .i64 8)]⟩ [(27, none, 26)] [12]
        [⟨some 30, none, .bin .add (.k (.i .i64 1)) (.t 29)⟩]
      (.alt (.one 13 ⟨some 31, none, .bsl ty_int [.i .i64 0] 2 [(0, 1, .t 30), (1, 1, .k (.i .i64 0))]⟩ [(27, none, 26)] []
        []
      (.one 15 ⟨some 33, none, .call (.k (.fn n_spec_l20Rd_pick [] [])) [.t 32, .k (.i .i64 9)]⟩ [(27, none, 26)] [16, 17, 18, 19, 20, 21]
        [⟨some 34, none, .bin .quo (.t 33) (.k (.i .i64 8))⟩,
        ⟨some 35, none, .ia 1 (.t 31) (.t 34)⟩,
        ⟨some 36, none, .ld (.t 35)⟩,
        ⟨some 37, none, .build [.i .i64 0, .i .i64 0] [(0, 1, .t 27), (1, 1, .t 36)]⟩,
        ⟨some 2, none, .mv (.t 18)⟩,
        ⟨some 3, none, .mv (.t 19)⟩]
      (.one 22 ⟨none, none, .st 2 (.t 4) (.t 37)⟩ [] []
        []
      .fin))) (.one 15 ⟨some 33, none, .call (.k (.fn n_spec_l20Rd_pick [] [])) [.t 32, .k (.i .i64 9)]⟩ [(27, none, 26)] [16, 20, 21]
        [⟨some 34, none, .bin .quo (.t 33) (.k (.i .i64 8))⟩,
        ⟨some 2, none, .mv (.t 18)⟩,
        ⟨some 3, none, .mv (.t 19)⟩]
      (.one 13 ⟨some 31, none, .bsl ty_int [.i .i64 0] 2 [(0, 1, .t 30), (1, 1, .k (.i .i64 0))]⟩ [(27, none, 26)] [17, 18, 19]
        [⟨some 35, none, .ia 1 (.t 31) (.t 34)⟩,
        ⟨some 36, none, .ld (.t 35)⟩,
        ⟨some 37, none, .build [.i .i64 0, .i .i64 0] [(0, 1, .t 27), (1, 1, .t 36)]⟩]
      (.one 22 ⟨none, none, .st 2 (.t 4) (.t 37)⟩ [] []
        []
      .fin))))))) (.one 6 ⟨some 24, none, .call (.k (.fn n_spec_l20Rd_pick [] [])) [.t 23, .k (.i .i64 9)]⟩ [] [7]
        [⟨some 25, none, .bin .quo (.t 24) (.k (.i .i64 8))⟩]
      (.alt (.one 4 ⟨some 22, none, .bsl ty_int [.i .i64 0] 2 [(0, 1, .t 21), (1, 1, .k (.i .i64 (-1)))]⟩ [] [8, 9]
        [⟨some 26, none, .ia 1 (.t 22) (.t 25)⟩,
        ⟨some 27, none, .ld (.t 26)⟩]
      (.one 11 ⟨some 29, none, .call (.k (.fn n_spec_l20Rd_pick [] [])) [.t 28, .k (.i .i64 8)]⟩ [(27, none, 26)] [12]
        [⟨some 30, none, .bin .add (.k (.i .i64 1)) (.t 29)⟩]
      (.alt (.one 13 ⟨some 31, none, .bsl ty_int [.i .i64 0] 2 [(0, 1, .t 30), (1, 1, .k (.i .i64 0))]⟩ [(27, none, 26)] []
        []
      (.one 15 ⟨some 33, none, .call (.k (.fn n_spec_l20Rd_pick [] [])) [.t 32, .k (.i .i64 9)]⟩ [(27, none, 26)] [16, 17, 18, 19, 20, 21]
        [⟨some 34, none, .bin .quo (.t 33) (.k (.i .i64 8))⟩,
        ⟨some 35, none, .ia 1 (.t 31) (.t 34)⟩,
        ⟨some 36, none, .ld (.t 35)⟩,
        ⟨some 37, none, .build [.i .i64 0, .i .i64 0] [(0, 1, .t 27), (1, 1, .t 36)]⟩,
        ⟨some 2, none, .mv (.t 18)⟩,
        ⟨some 3, none, .mv (.t 19)⟩]
      (.one 22 ⟨none, none, .st 2 (.t 4) (.t 37)⟩ [] []
        []
      .fin))) (.one 15 ⟨some 33, none, .call (.k (.fn n_spec_l20Rd_pick [] [])) [.t 32, .k (.i .i64 9)]⟩ [(27, none, 26)] [16, 20, 21]
        [⟨some 34, none, .bin .quo (.t 33) (.k (.i .i64 8))⟩,
        ⟨some 2, none, .mv (.t 18)⟩,
        ⟨some 3, none, .mv (.t 19)⟩]
      (.one 13 ⟨some 31, none, .bsl ty_int [.i .i64 0] 2 [(0, 1, .t 30), (1, 1, .k (.i .i64 0))]⟩ [(27, none, 26)] [17, 18, 19]
        [⟨some 35, none, .ia 1 (.t 31) (.t 34)⟩,
        ⟨some 36, none, .ld (.t 35)⟩,
        ⟨some 37, none, .build [.i .i64 0, .i .i64 0] [(0, 1, .t 27), (1, 1, .t 36)]⟩]
      (.one 22 ⟨none, none, .st 2 (.t 4) (.t 37)⟩ [] []
        []
      .fin)))))) (.one 11 ⟨some 29, none, .call (.k (.fn n_spec_l20Rd_pick [] [])) [.t 28, .k (.i .i64 8)]⟩ [] [12]
        [⟨some 30, none, .bin .add (.k (.i .i64 1)) (.t 29)⟩]
      (.alt (.one 4 ⟨some 22, none, .bsl ty_int [.i .i64 0] 2 [(0, 1, .t 21), (1, 1, .k (.i .i64 (-1)))]⟩ [] [8, 9]
        [⟨some 26, none, .ia 1 (.t 22) (.t 25)⟩,
        ⟨some 27, none, .ld (.t 26)⟩]
      (.alt (.one 13 ⟨some 31, none, .bsl ty_int [.i .i64 0] 2 [(0, 1, .t 30), (1, 1, .k (.i .i64 0))]⟩ [(27, none, 26)] []
        []
      (.one 15 ⟨some 33, none, .call (.k (.fn n_spec_l20Rd_pick [] [])) [.t 32, .k (.i .i64 9)]⟩ [(27, none, 26)] [16, 17, 18, 19, 20, 21]
        [⟨some 34, none, .bin .quo (.t 33) (.k (.i .i64 8))⟩,
        ⟨some 35, none, .ia 1 (.t 31) (.t 34)⟩,
        ⟨some 36, none, .ld (.t 35)⟩,
        ⟨some 37, none, .build [.i .i64 0, .i .i64 0] [(0, 1, .t 27), (1, 1, .t 36)]⟩,
        ⟨some 2, none, .mv (.t 18)⟩,
        ⟨some 3, none, .mv (.t 19)⟩]
      (.one 22 ⟨none, none, .st 2 (.t 4) (.t 37)⟩ [] []
        []
      .fin))) (.one 15 ⟨some 33, none, .call (.k (.fn n_spec_l20Rd_pick [] [])) [.t 32, .k (.i .i64 9)]⟩ [(27, none, 26)] [16, 20, 21]
        [⟨some 34, none, .bin .quo (.t 33) (.k (.i .i64 8))⟩,
        ⟨some 2, none, .mv (.t 18)⟩,
        ⟨some 3, none, .mv (.t 19)⟩]
      (.one 13 ⟨some 31, none, .bsl ty_int [.i .i64 0] 2 [(0, 1, .t 30), (1, 1, .k (.i .i64 0))]⟩ [(27, none, 26)] [17, 18, 19]
        [⟨some 35, none, .ia 1 (.t 31) (.t 34)⟩,
        ⟨some 36, none, .ld (.t 35)⟩,
        ⟨some 37, none, .build [.i .i64 0, .i .i64 0] [(0, 1, .t 27), (1, 1, .t 36)]⟩]
      (.one 22 ⟨none, none, .st 2 (.t 4) (.t 37)⟩ [] []
        []
      .fin))))) (.alt (.one 13 ⟨some 31, none, .bsl ty_int [.i .i64 0] 2 [(0, 1, .t 30), (1, 1, .k (.i .i64 0))]⟩ [] []
        []
      (.alt (.one 4 ⟨some 22, none, .bsl ty_int [.i .i64 0] 2 [(0, 1, .t 21), (1, 1, .k (.i .i64 (-1)))]⟩ [] [8, 9]
        [⟨some 26, none, .ia 1 (.t 22) (.t 25)⟩,
        ⟨some 27, none, .ld (.t 26)⟩]
      (.one 15 ⟨some 33, none, .call (.k (.fn n_spec_l20Rd_pick [] [])) [.t 32, .k (.i .i64 9)]⟩ [(27, none, 26)] [16, 17, 18, 19, 20, 21]
        [⟨some 34, none, .bin .quo (.t 33) (.k (.i .i64 8))⟩,
        ⟨some 35, none, .ia 1 (.t 31) (.t 34)⟩,
        ⟨some 36, none, .ld (.t 35)⟩,
        ⟨some 37, none, .build [.i .i64 0, .i .i64 0] [(0, 1, .t 27), (1, 1, .t 36)]⟩,
        ⟨some 2, none, .mv (.t 18)⟩,
        ⟨some 3, none, .mv (.t 19)⟩]
      (.one 22 ⟨none, none, .st 2 (.t 4) (.t 37)⟩ [] []
        []
      .fin))) (.one 15 ⟨some 33, none, .call (.k (.fn n_spec_l20Rd_pick [] [])) [.t 32, .k (.i .i64 9)]⟩ [] [16, 17, 18, 20, 21]
        [⟨some 34, none, .bin .quo (.t 33) (.k (.i .i64 8))⟩,
        ⟨some 35, none, .ia 1 (.t 31) (.t 34)⟩,
        ⟨some 36, none, .ld (.t 35)⟩,
        ⟨some 2, none, .mv (.t 18)⟩,
        ⟨some 3, none, .mv (.t 19)⟩]
      (.one 4 ⟨some 22, none, .bsl ty_int [.i .i64 0] 2 [(0, 1, .t 21), (1, 1, .k (.i .i64 (-1)))]⟩ [(36, none, 35)] [8, 9, 19]
        [⟨some 26, none, .ia 1 (.t 22) (.t 25)⟩,
        ⟨some 27, none, .ld (.t 26)⟩,
        ⟨some 37, none, .build [.i .i64 0, .i .i64 0] [(0, 1, .t 27), (1, 1, .t 36)]⟩]
      (.one 22 ⟨none, none, .st 2 (.t 4) (.t 37)⟩ [] []
        []
      .fin))))) (.one 15 ⟨some 33, none, .call (.k (.fn n_spec_l20Rd_pick [] [])) [.t 32, .k (.i .i64 9)]⟩ [] [16, 20, 21]
        [⟨some 34, none, .bin .quo (.t 33) (.k (.i .i64 8))⟩,
        ⟨some 2, none, .mv (.t 18)⟩,
        ⟨some 3, none, .mv (.t 19)⟩]
      (.alt (.one 4 ⟨some 22, none, .bsl ty_int [.i .i64 0] 2 [(0, 1, .t 21), (1, 1, .k (.i .i64 (-1)))]⟩ [] [8, 9]
        [⟨some 26, none, .ia 1 (.t 22) (.t 25)⟩,
        ⟨some 27, none, .ld (.t 26)⟩]
      (.one 13 ⟨some 31, none, .bsl ty_int [.i .i64 0] 2 [(0, 1, .t 30), (1, 1, .k (.i .i64 0))]⟩ [(27, none, 26)] [17, 18, 19]
        [⟨some 35, none, .ia 1 (.t 31) (.t 34)⟩,
        ⟨some 36, none, .ld (.t 35)⟩,
        ⟨some 37, none, .build [.i .i64 0, .i .i64 0] [(0, 1, .t 27), (1, 1, .t 36)]⟩]
      (.one 22 ⟨none, none, .st 2 (.t 4) (.t 37)⟩ [] []
        []
      .fin))) (.one 13 ⟨some 31, none, .bsl ty_int [.i .i64 0] 2 [(0, 1, .t 30), (1, 1, .k (.i .i64 0))]⟩ [] [17, 18]
        [⟨some 35, none, .ia 1 (.t 31) (.t 34)⟩,
        ⟨some 36, none, .ld (.t 35)⟩]
      (.one 4 ⟨some 22, none, .bsl ty_int [.i .i64 0] 2 [(0, 1, .t 21), (1, 1, .k (.i .i64 (-1)))]⟩ [(36, none, 35)] [8, 9, 19]
        [⟨some 26, none, .ia 1 (.t 22) (.t 25)⟩,
        ⟨some 27, none, .ld (.t 26)⟩,
        ⟨some 37, none, .build [.i .i64 0, .i .i64 0] [(0, 1, .t 27), (1, 1, .t 36)]⟩]
      (.one 22 ⟨none, none, .st 2 (.t 4) (.t 37)⟩ [] []
        []
      .fin)))))))))))))
    (.ret)))))
theorem k_spec_DrawStealSlack : chkF Try.prog Try.f49 38 c_spec_DrawStealSlack [.t 2, .t 3, .c 4 (some 2)] = true := by kernel_rfl
theorem call_spec_DrawStealSlack {args : List AV} {σ : List AB} {K : AV → List AB → Prop} (hn : args.length ≤ 38) (hw : wpC Try.prog σ.length 38 c_spec_DrawStealSlack (retP σ.length [.t 2, .t 3, .c 4 (some 2)] K) ⟨initT 0 args, σ⟩) : CallWp Try.prog n_spec_DrawStealSlack args σ K := call_fn mixed Try.func49 k_spec_DrawStealSlack hn hw
def l0_impl_StealSlack : LC := .seq (.seq (.ops [⟨some 30, none, .ld (.t 8)⟩,
      ⟨some 31, none, .bin .lss (.t 30) (.k (.i .i64 120))⟩,
      ⟨some 32, none, .mv (.t 31)⟩,
      ⟨some 33, (some (32, true)), .ld (.t 7)⟩,
      ⟨some 34, (some (32, true)), .len (.t 33)⟩,
      ⟨some 35, (some (32, true)), .fa 1 (.t 5)⟩,
      ⟨some 36, (some (32, true)), .ld (.t 35)⟩,
      ⟨some 37, (some (32, true)), .bin .lss (.t 34) (.t 36)⟩,
      ⟨some 38, none, .pick (.t 32) (.t 37) (.k (.b false))⟩])
    (.cond (.t 38) (.skip)
    (.exit 0)))
    (.join (.block 1 (.seq (.ops [⟨some 41, none, .mv (.t 1)⟩,
      ⟨some 42, none, .mkf n_impl_StealSlack_1 [] [.t 8, .t 7]⟩,
      ⟨some 43, none, .call (.k (.fn n_impl_paused [] [])) [.t 41, .t 42]⟩,
      ⟨some 9, none, .alloc ty_impl_Schedule [.sn, .sn]⟩,
      ⟨none, none, .st 2 (.t 9) (.t 43)⟩])
    (.seq (.ops [⟨some 44, none, .mv (.t 1)⟩,
      ⟨some 45, none, .ldn 2 (.t 9)⟩,
      ⟨some 46, none, .call (.k (.fn n_impl_Missed [] [])) [.t 44, .t 45]⟩,
      ⟨some 47, none, .len (.t 46)⟩,
      ⟨some 48, none, .bin .eql (.t 47) (.k (.i .i64 0))⟩])
    (.cond (.t 48) (.ops [⟨some 49, none, .ld (.t 7)⟩,
      ⟨some 50, none, .ld (.t 8)⟩,
      ⟨some 51, none, .bsl ty_int [.i .i64 0] 1 [(0, 1, .t 50)]⟩,
      ⟨some 52, none, .app ty_int 1 8 (.t 49) (.t 51)⟩,
      ⟨none, none, .st 1 (.t 7) (.t 52)⟩])
    (.skip)))))
    (.seq (.seq (.ops [⟨some 53, none, .ld (.t 8)⟩])
    (.ops [⟨some 8, none, .alloc ty_int [.i .i64 0]⟩,
      ⟨none, none, .st 1 (.t 8) (.t 53)⟩]))
    (.ops [⟨some 39, none, .ld (.t 8)⟩,
      ⟨some 40, none, .bin .add (.t 39) (.k (.i .i64 1))⟩,
      ⟨none, none, .st 1 (.t 8) (.t 40)⟩])))
def c_impl_StealSlack : LC := .seq (.ops [⟨some 5, none, .box ty_impl_Arrival (.t 2)⟩,
      ⟨some 6, none, .mv (.k (.sn))⟩])
    (.seq (.seq (.ops [⟨some 10, none, .mv (.t 0)⟩,
      ⟨some 11, none, .mv (.t 1)⟩,
      ⟨some 12, none, .call (.k (.fn n_impl_JobsLegal [] [])) [.t 10, .t 11]⟩,
      ⟨some 13, none, .not (.t 12)⟩,
      ⟨some 14, none, .mv (.t 13)⟩,
      ⟨some 15, (some (14, false)), .ldn 2 (.t 5)⟩,
      ⟨some 16, (some (14, false)), .bsl ty_impl_Arrival [.i .i64 0, .i .i64 0] 1 [(0, 2, .t 15)]⟩,
      ⟨some 17, (some (14, false)), .call (.k (.fn n_impl_ArrivalsLegal [] [])) [.t 16]⟩,
      ⟨some 18, (some (14, false)), .not (.t 17)⟩,
      ⟨some 19, none, .pick (.t 14) (.k (.b true)) (.t 18)⟩,
      ⟨some 20, none, .mv (.t 19)⟩,
      ⟨some 21, (some (20, false)), .mv (.t 1)⟩,
      ⟨some 22, (some (20, false)), .mv (.t 1)⟩,
      ⟨some 23, (some (20, false)), .call (.k (.fn n_impl_simulate [] [])) [.t 22, .k (.fn n_impl_edf [] [])]⟩,
      ⟨some 24, (some (20, false)), .call (.k (.fn n_impl_Missed [] [])) [.t 21, .t 23]⟩,
      ⟨some 25, (some (20, false)), .len (.t 24)⟩,
      ⟨some 26, (some (20, false)), .bin .gtr (.t 25) (.k (.i .i64 0))⟩,
      ⟨some 27, none, .pick (.t 20) (.k (.b true)) (.t 26)⟩])
    (.cond (.t 27) (.seq (.ops [⟨some 6, none, .mv (.k (.sn))⟩])
    (.ret))
    (.skip)))
    (.seq (.ops [⟨some 7, none, .alloc ty_sl_int [.sn]⟩])
    (.seq (.seq (.ops [⟨some 28, none, .fa 0 (.t 5)⟩,
      ⟨some 29, none, .ld (.t 28)⟩,
      ⟨some 8, none, .alloc ty_int [.i .i64 0]⟩,
      ⟨none, none, .st 1 (.t 8) (.t 29)⟩])
    (.block 0 (.loop l0_impl_StealSlack)))
    (.seq (.ops [⟨some 54, none, .ld (.t 7)⟩,
      ⟨some 55, none, .call (.k (.fn n_slices_Clip_int [] [])) [.t 54]⟩,
      ⟨some 6, none, .mv (.t 55)⟩])
    (.ret)))))
theorem k_impl_StealSlack : chkF Try.prog Try.f50 56 c_impl_StealSlack [.t 6] = true := by kernel_rfl
theorem call_impl_StealSlack {args : List AV} {σ : List AB} {K : AV → List AB → Prop} (hn : args.length ≤ 56) (hw : wpC Try.prog σ.length 56 c_impl_StealSlack (retP σ.length [.t 6] K) ⟨initT 0 args, σ⟩) : CallWp Try.prog n_impl_StealSlack args σ K := call_fn mixed Try.func50 k_impl_StealSlack hn hw
def l0_spec_StealSlack : LC := .seq (.seq (.ops [⟨some 32, none, .mv (.t 8)⟩,
      ⟨some 33, none, .bin .lss (.t 32) (.k (.i .i64 120))⟩,
      ⟨some 34, none, .mv (.t 33)⟩,
      ⟨some 35, (some (34, true)), .mv (.t 7)⟩,
      ⟨some 36, (some (34, true)), .len (.t 35)⟩,
      ⟨some 37, (some (34, true)), .fa 1 (.t 5)⟩,
      ⟨some 38, (some (34, true)), .ld (.t 37)⟩,
      ⟨some 39, (some (34, true)), .bin .lss (.t 36) (.t 38)⟩,
      ⟨some 40, none, .pick (.t 34) (.t 39) (.k (.b false))⟩])
    (.cond (.t 40) (.skip)
    (.exit 0)))
    (.seq (.block 1 (.seq (.ops [⟨some 43, none, .bsl ty_int [.i .i64 0] 0 []⟩,
      ⟨some 44, none, .mv (.t 7)⟩,
      ⟨some 45, none, .app ty_int 1 8 (.t 43) (.t 44)⟩,
      ⟨some 46, none, .mv (.t 8)⟩,
      ⟨some 47, none, .bsl ty_int [.i .i64 0] 1 [(0, 1, .t 46)]⟩,
      ⟨some 48, none, .app ty_int 1 8 (.t 45) (.t 47)⟩,
      ⟨some 9, none, .mv (.t 48)⟩])
    (.seq (.ops [⟨some 49, none, .mv (.t 1)⟩,
      ⟨some 50, none, .mv (.t 9)⟩,
      ⟨some 51, none, .call (.k (.fn n_spec_l17Fits [] [])) [.t 49, .t 50]⟩])
    (.cond (.t 51) (.ops [⟨some 52, none, .mv (.t 9)⟩,
      ⟨some 7, none, .mv (.t 52)⟩])
    (.skip)))))
    (.ops [⟨some 41, none, .mv (.t 8)⟩,
      ⟨some 42, none, .bin .add (.t 41) (.k (.i .i64 1))⟩,
      ⟨some 8, none, .mv (.t 42)⟩]))
def c_spec_StealSlack : LC := .seq (.ops [⟨some 5, none, .box ty_impl_Arrival (.t 2)⟩,
      ⟨some 6, none, .mv (.k (.sn))⟩])
    (.seq (.ops [⟨some 10, none, .bsl ty_int [.i .i64 0] 0 []⟩,
      ⟨some 7, none, .mv (.t 10)⟩])
    (.seq (.seq (.ops [⟨some 11, none, .mv (.t 0)⟩,
      ⟨some 12, none, .mv (.t 1)⟩,
      ⟨some 13, none, .call (.k (.fn n_spec_JobsLegal [] [])) [.t 11, .t 12]⟩,
      ⟨some 14, none, .not (.t 13)⟩,
      ⟨some 15, none, .mv (.t 14)⟩,
      ⟨some 16, (some (15, false)), .ldn 2 (.t 5)⟩,
      ⟨some 17, (some (15, false)), .bsl ty_impl_Arrival [.i .i64 0, .i .i64 0] 1 [(0, 2, .t 16)]⟩,
      ⟨some 18, (some (15, false)), .call (.k (.fn n_spec_ArrivalsLegal [] [])) [.t 17]⟩,
      ⟨some 19, (some (15, false)), .not (.t 18)⟩,
      ⟨some 20, none, .pick (.t 15) (.k (.b true)) (.t 19)⟩,
      ⟨some 21, none, .mv (.t 20)⟩,
      ⟨some 22, (some (21, false)), .mv (.t 1)⟩,
      ⟨some 23, (some (21, false)), .mv (.t 1)⟩,
      ⟨some 24, (some (21, false)), .call (.k (.fn n_spec_l17Run [] [])) [.t 23, .k (.i .i64 0), .k (.i .i64 0)]⟩,
      ⟨some 25, (some (21, false)), .call (.k (.fn n_spec_l3Missed [] [])) [.t 22, .t 24]⟩,
      ⟨some 26, (some (21, false)), .len (.t 25)⟩,
      ⟨some 27, (some (21, false)), .bin .gtr (.t 26) (.k (.i .i64 0))⟩,
      ⟨some 28, none, .pick (.t 21) (.k (.b true)) (.t 27)⟩])
    (.cond (.t 28) (.seq (.ops [⟨some 29, none, .mv (.t 7)⟩,
      ⟨some 6, none, .mv (.t 29)⟩])
    (.ret))
    (.skip)))
    (.seq (.seq (.ops [⟨some 30, none, .fa 0 (.t 5)⟩,
      ⟨some 31, none, .ld (.t 30)⟩,
      ⟨some 8, none, .mv (.t 31)⟩])
    (.block 0 (.loop l0_spec_StealSlack)))
    (.seq (.ops [⟨some 53, none, .mv (.t 7)⟩,
      ⟨some 6, none, .mv (.t 53)⟩])
    (.ret)))))
theorem k_spec_StealSlack : chkF Try.prog Try.f51 54 c_spec_StealSlack [.t 6] = true := by kernel_rfl
theorem call_spec_StealSlack {args : List AV} {σ : List AB} {K : AV → List AB → Prop} (hn : args.length ≤ 54) (hw : wpC Try.prog σ.length 54 c_spec_StealSlack (retP σ.length [.t 6] K) ⟨initT 0 args, σ⟩) : CallWp Try.prog n_spec_StealSlack args σ K := call_fn mixed Try.func51 k_spec_StealSlack hn hw
def l0_spec_ArrivalsLegal : LC := .seq (.seq (.ops [⟨some 4, none, .mv (.t 3)⟩,
      ⟨some 5, none, .mv (.t 0)⟩,
      ⟨some 6, none, .len (.t 5)⟩,
      ⟨some 7, none, .bin .lss (.t 4) (.t 6)⟩])
    (.cond (.t 7) (.skip)
    (.exit 0)))
    (.seq (.block 1 (.seq (.draw 34 [⟨some 10, none, .mv (.t 0)⟩,
      ⟨some 11, none, .mv (.t 3)⟩,
      ⟨some 12, none, .ia 2 (.t 10) (.t 11)⟩,
      ⟨some 13, none, .fa 0 (.t 12)⟩,
      ⟨some 14, none, .ld (.t 13)⟩,
      ⟨some 15, none, .call (.k (.fn n_spec_l1In [] [])) [.t 14, .k (.i .i64 0), .k (.i .i64 119)]⟩,
      ⟨some 16, none, .not (.t 15)⟩,
      ⟨some 17, none, .mv (.t 16)⟩,
      ⟨some 18, (some (17, false)), .mv (.t 0)⟩,
      ⟨some 19, (some (17, false)), .mv (.t 3)⟩,
      ⟨some 20, (some (17, false)), .ia 2 (.t 18) (.t 19)⟩,
      ⟨some 21, (some (17, false)), .fa 1 (.t 20)⟩,
      ⟨some 22, (some (17, false)), .ld (.t 21)⟩,
      ⟨some 23, (some (17, false)), .call (.k (.fn n_spec_l1In [] [])) [.t 22, .k (.i .i64 1), .k (.i .i64 20)]⟩,
      ⟨some 24, (some (17, false)), .not (.t 23)⟩,
      ⟨some 25, none, .pick (.t 17) (.k (.b true)) (.t 24)⟩,
      ⟨some 26, none, .mv (.t 25)⟩,
      ⟨some 27, (some (26, false)), .mv (.t 3)⟩,
      ⟨some 28, (some (26, false)), .bin .gtr (.t 27) (.k (.i .i64 0))⟩,
      ⟨some 29, (some (26, false)), .mv (.t 28)⟩,
      ⟨some 30, (some (29, true)), .mv (.t 0)⟩,
      ⟨some 31, (some (29, true)), .mv (.t 3)⟩,
      ⟨some 32, (some (29, true)), .bin .sub (.t 31) (.k (.i .i64 1))⟩,
      ⟨some 33, (some (29, true)), .ia 2 (.t 30) (.t 32)⟩,
      ⟨some 34, (some (29, true)), .fa 0 (.t 33)⟩,
      ⟨some 35, (some (29, true)), .ld (.t 34)⟩,
      ⟨some 36, (some (29, true)), .mv (.t 0)⟩,
      ⟨some 37, (some (29, true)), .mv (.t 3)⟩,
      ⟨some 38, (some (29, true)), .ia 2 (.t 36) (.t 37)⟩,
      ⟨some 39, (some (29, true)), .fa 0 (.t 38)⟩,
      ⟨some 40, (some (29, true)), .ld (.t 39)⟩,
      ⟨some 41, (some (29, true)), .bin .gtr (.t 35) (.t 40)⟩,
      ⟨some 42, (some (26, false)), .pick (.t 29) (.t 41) (.k (.b false))⟩,
      ⟨some 43, none, .pick (.t 26) (.k (.b true)) (.t 42)⟩])
    (.cond (.t 43) (.seq (.ops [⟨some 2, none, .mv (.k (.b false))⟩])
    (.ret))
    (.skip))))
    (.ops [⟨some 8, none, .mv (.t 3)⟩,
      ⟨some 9, none, .bin .add (.t 8) (.k (.i .i64 1))⟩,
      ⟨some 3, none, .mv (.t 9)⟩]))
def c_spec_ArrivalsLegal : LC := .seq (.ops [⟨some 2, none, .mv (.k (.b false))⟩])
    (.seq (.seq (.ops [⟨some 3, none, .mv (.k (.i .i64 0))⟩])
    (.block 0 (.loop l0_spec_ArrivalsLegal)))
    (.seq (.ops [⟨some 44, none, .mv (.t 0)⟩,
      ⟨some 45, none, .len (.t 44)⟩,
      ⟨some 46, none, .bin .leq (.t 45) (.k (.i .i64 20))⟩,
      ⟨some 2, none, .mv (.t 46)⟩])
    (.ret)))
theorem k_spec_ArrivalsLegal : chkF Try.prog Try.f52 47 c_spec_ArrivalsLegal [.t 2] = true := by kernel_rfl
theorem call_spec_ArrivalsLegal {args : List AV} {σ : List AB} {K : AV → List AB → Prop} (hn : args.length ≤ 47) (hw : wpC Try.prog σ.length 47 c_spec_ArrivalsLegal (retP σ.length [.t 2] K) ⟨initT 0 args, σ⟩) : CallWp Try.prog n_spec_ArrivalsLegal args σ K := call_fn mixed Try.func52 k_spec_ArrivalsLegal hn hw
def c_spec_DrawRunEdf : LC := .seq (.ops [⟨some 2, none, .mv (.k (.sn))⟩,
      ⟨some 3, none, .mv (.k (.sn))⟩])
    (.seq (.ops [⟨some 6, none, .mv (.t 0)⟩,
      ⟨some 7, none, .call (.k (.fn n_spec_l20Open [] [])) [.t 6]⟩,
      ⟨some 4, none, .mv (.t 7)⟩])
    (.seq (.ops [⟨some 8, none, .mv (.t 4)⟩,
      ⟨some 9, none, .call (.k (.fn n_spec_l20Set [] [])) [.t 8, .k (.i .i64 20)]⟩,
      ⟨some 5, none, .mv (.t 9)⟩])
    (.seq (.seq (.ops [⟨some 10, none, .mv (.t 5)⟩,
      ⟨some 11, none, .call (.k (.fn n_spec_SetValid [] [])) [.t 10]⟩,
      ⟨some 12, none, .not (.t 11)⟩])
    (.cond (.t 12) (.seq (.ops [⟨some 13, none, .mv (.t 5)⟩,
      ⟨some 14, none, .bsl ty_impl_Job [.i .i64 0, .i .i64 0, .i .i64 0, .i .i64 0] 0 []⟩,
      ⟨some 2, none, .mv (.t 13)⟩,
      ⟨some 3, none, .mv (.t 14)⟩])
    (.ret))
    (.skip)))
    (.seq (.ops [⟨some 15, none, .mv (.t 5)⟩,
      ⟨some 16, none, .mv (.t 4)⟩,
      ⟨some 17, none, .mv (.t 5)⟩,
      ⟨some 18, none, .call (.k (.fn n_spec_l20Jobs [] [])) [.t 16, .t 17, .k (.i .i64 16)]⟩,
      ⟨some 2, none, .mv (.t 15)⟩,
      ⟨some 3, none, .mv (.t 18)⟩])
    (.ret)))))
theorem k_spec_DrawRunEdf : chkF Try.prog Try.f53 19 c_spec_DrawRunEdf [.t 2, .t 3] = true := by kernel_rfl
theorem call_spec_DrawRunEdf {args : List AV} {σ : List AB} {K : AV → List AB → Prop} (hn : args.length ≤ 19) (hw : wpC Try.prog σ.length 19 c_spec_DrawRunEdf (retP σ.length [.t 2, .t 3] K) ⟨initT 0 args, σ⟩) : CallWp Try.prog n_spec_DrawRunEdf args σ K := call_fn mixed Try.func53 k_spec_DrawRunEdf hn hw
def c_spec_l20Open : LC := .seq (.ops [⟨some 2, none, .mv (.k (.pn))⟩])
    (.join (.seq (.ops [⟨some 3, none, .mv (.t 0)⟩,
      ⟨some 4, none, .len (.t 3)⟩,
      ⟨some 5, none, .bin .gtr (.t 4) (.k (.i .i64 2000))⟩])
    (.cond (.t 5) (.ops [⟨some 6, none, .mv (.t 0)⟩,
      ⟨some 7, none, .slc 1 (.t 6) none (some (.k (.i .i64 2000))) none⟩,
      ⟨some 0, none, .mv (.t 7)⟩])
    (.skip)))
    (.seq (.ops [⟨some 8, none, .mv (.t 0)⟩,
      ⟨some 9, none, .build [.sn, .i .i64 0] [(0, 1, .t 8)]⟩,
      ⟨some 10, none, .box ty_spec_l20Rd (.t 9)⟩,
      ⟨some 2, none, .mv (.t 10)⟩])
    (.ret)))
theorem k_spec_l20Open : chkF Try.prog Try.f57 11 c_spec_l20Open [.t 2] = true := by kernel_rfl
theorem call_spec_l20Open {args : List AV} {σ : List AB} {K : AV → List AB → Prop} (hn : args.length ≤ 11) (hw : wpC Try.prog σ.length 11 c_spec_l20Open (retP σ.length [.t 2] K) ⟨initT 0 args, σ⟩) : CallWp Try.prog n_spec_l20Open args σ K := call_fn mixed Try.func57 k_spec_l20Open hn hw
def l0_spec_l20Set : LC := .seq (.seq (.ops [⟨some 25, none, .mv (.t 5)⟩,
      ⟨some 26, none, .len (.t 25)⟩,
      ⟨some 27, none, .bin .leq (.t 26) (.k (.i .i64 5))⟩])
    (.cond (.t 27) (.skip)
    (.exit 2)))
    (.block 3 (.ops [⟨some 28, none, .mv (.t 5)⟩,
      ⟨some 29, none, .mv (.t 0)⟩,
      ⟨some 30, none, .call (.k (.fn n_spec_l20Task [] [])) [.t 29, .k (.i .i64 0)]⟩,
      ⟨some 31, none, .bsl ty_impl_Task [.i .i64 0, .i .i64 0, .i .i64 0] 1 [(0, 3, .t 30)]⟩,
      ⟨some 32, none, .app ty_impl_Task 3 24 (.t 28) (.t 31)⟩,
      ⟨some 5, none, .mv (.t 32)⟩]))
def l1_spec_l20Set : LC := .seq (.seq (.ops [⟨some 10, none, .mv (.t 6)⟩,
      ⟨some 11, none, .bin .gtr (.t 10) (.k (.i .i64 0))⟩])
    (.cond (.t 11) (.skip)
    (.exit 0)))
    (.seq (.block 1 (.ops [⟨some 14, none, .mv (.t 5)⟩,
      ⟨some 15, none, .mv (.t 0)⟩,
      ⟨some 16, none, .call (.k (.fn n_spec_l20Task [] [])) [.t 15, .k (.i .i64 0)]⟩,
      ⟨some 17, none, .bsl ty_impl_Task [.i .i64 0, .i .i64 0, .i .i64 0] 1 [(0, 3, .t 16)]⟩,
      ⟨some 18, none, .app ty_impl_Task 3 24 (.t 14) (.t 17)⟩,
      ⟨some 5, none, .mv (.t 18)⟩]))
    (.ops [⟨some 12, none, .mv (.t 6)⟩,
      ⟨some 13, none, .bin .sub (.t 12) (.k (.i .i64 1))⟩,
      ⟨some 6, none, .mv (.t 13)⟩]))
def c_spec_l20Set : LC := .seq (.ops [⟨some 4, none, .mv (.k (.sn))⟩])
    (.seq (.ops [⟨some 7, none, .bsl ty_impl_Task [.i .i64 0, .i .i64 0, .i .i64 0] 0 []⟩,
      ⟨some 5, none, .mv (.t 7)⟩])
    (.seq (.seq (.ops [⟨some 8, none, .mv (.t 0)⟩,
      ⟨some 9, none, .call (.k (.fn n_spec_l20Rd_pick [] [])) [.t 8, .k (.i .i64 6)]⟩,
      ⟨some 6, none, .mv (.t 9)⟩])
    (.block 0 (.loop l1_spec_l20Set)))
    (.join (.seq (.ops [⟨some 19, none, .mv (.t 0)⟩,
      ⟨some 20, none, .mv (.t 1)⟩,
      ⟨some 21, none, .call (.k (.fn n_spec_l20Rd_odd [] [])) [.t 19, .t 20]⟩])
    (.cond (.t 21) (.seq (.seq (.ops [⟨some 22, none, .mv (.t 0)⟩,
      ⟨some 23, none, .call (.k (.fn n_spec_l20Rd_pick [] [])) [.t 22, .k (.i .i64 3)]⟩,
      ⟨some 24, none, .bin .eql (.t 23) (.k (.i .i64 0))⟩])
    (.cond (.t 24) (.block 2 (.loop l0_spec_l20Set))
    (.skip)))
    (.ops [⟨some 33, none, .mv (.t 5)⟩,
      ⟨some 34, none, .mv (.t 0)⟩,
      ⟨some 35, none, .call (.k (.fn n_spec_l20Task [] [])) [.t 34, .k (.i .i64 2)]⟩,
      ⟨some 36, none, .bsl ty_impl_Task [.i .i64 0, .i .i64 0, .i .i64 0] 1 [(0, 3, .t 35)]⟩,
      ⟨some 37, none, .app ty_impl_Task 3 24 (.t 33) (.t 36)⟩,
      ⟨some 5, none, .mv (.t 37)⟩]))
    (.skip)))
    (.seq (.ops [⟨some 38, none, .mv (.t 5)⟩,
      ⟨some 4, none, .mv (.t 38)⟩])
    (.ret)))))
theorem k_spec_l20Set : chkF Try.prog Try.f58 39 c_spec_l20Set [.t 4] = true := by kernel_rfl
theorem call_spec_l20Set {args : List AV} {σ : List AB} {K : AV → List AB → Prop} (hn : args.length ≤ 39) (hw : wpC Try.prog σ.length 39 c_spec_l20Set (retP σ.length [.t 4] K) ⟨initT 0 args, σ⟩) : CallWp Try.prog n_spec_l20Set args σ K := call_fn mixed Try.func58 k_spec_l20Set hn hw
end Go.Proofs.Ytdmoafmgeipenaa
