import Derived.Test.YtmphblbpofnpaaaProg
import Derived.Test.YtmphblbpofnpaaaAbsY
import Derived.KernelRfl
namespace Go.Proofs.Ytmphblbpofnpaaa
open Go.Abs
set_option maxRecDepth 100000
theorem mixed : Try.prog.follows .mixedOrders = true := by kernel_rfl
abbrev n_laws_FnMixedLow : Nat := 4
abbrev n_impl_RunMixed : Nat := 13
abbrev n_laws_sameMixed : Nat := 14
abbrev n_spec_RunMixed : Nat := 15
abbrev n_laws_alive : Nat := 16
abbrev n_spec_DrawMixedLow : Nat := 17
abbrev n_impl_Missed : Nat := 18
abbrev n_laws_sameInts : Nat := 21
abbrev n_spec_l20Open : Nat := 43
abbrev n_spec_l20Mixed : Nat := 44
abbrev n_spec_MixedValid : Nat := 45
abbrev n_spec_l20MixedJobs : Nat := 46
abbrev n_impl_DeadlineScale : Nat := 47
abbrev n_impl_MixedLegal : Nat := 48
abbrev n_impl_simulate : Nat := 49
abbrev n_impl_mixed_pick : Nat := 50
abbrev n_spec_DeadlineScale : Nat := 51
abbrev n_spec_MixedLegal : Nat := 52
abbrev n_spec_l15Best : Nat := 53
abbrev n_impl_TaskValid : Nat := 54
abbrev n_impl_missed : Nat := 55
abbrev n_spec_SetValid : Nat := 67
abbrev n_spec_l20Jobs : Nat := 68
abbrev n_impl_newMachine : Nat := 70
abbrev n_impl_none : Nat := 71
abbrev n_impl_machine_ready : Nat := 72
abbrev n_spec_JobsLegal : Nat := 77
abbrev n_spec_l1In : Nat := 78
abbrev n_spec_l20Rd_pick : Nat := 83
abbrev n_spec_l20Rd_odd : Nat := 84
abbrev n_impl_MixedValid : Nat := 85
abbrev n_impl_reduced : Nat := 86
abbrev n_impl_ordered : Nat := 87
abbrev n_impl_MixedLegal_1 : Nat := 88
abbrev n_impl_spaced : Nat := 89
abbrev n_impl_release : Nat := 90
abbrev n_impl_MixedLegal_2 : Nat := 91
abbrev n_slices_ContainsFunc_impl_Job : Nat := 92
abbrev n_impl_MixedLegal_3 : Nat := 93
abbrev n_impl_mixed_pick_1 : Nat := 94
abbrev n_impl_mixed_vital : Nat := 95
abbrev n_impl_machine_best : Nat := 96
abbrev n_impl_machine_deadline : Nat := 97
abbrev n_impl_mixed_pick_2 : Nat := 98
abbrev n_impl_mixed_pick_3 : Nat := 99
abbrev n_spec_l15Sums : Nat := 100
abbrev n_spec_l1Gcd : Nat := 101
abbrev n_spec_l15Key : Nat := 102
abbrev n_impl_in : Nat := 103
abbrev n_slices_Clip_int : Nat := 104
abbrev n_spec_TaskValid : Nat := 110
abbrev n_slices_Repeat_int : Nat := 111
abbrev n_slices_ContainsFunc_impl_MixedTask : Nat := 119
abbrev n_impl_MixedValid_1 : Nat := 120
abbrev n_impl_gcd : Nat := 121
abbrev n_slices_IndexFunc_impl_Job : Nat := 122
abbrev n_math_bits_Mul : Nat := 123
abbrev n_slices_IndexFunc_impl_MixedTask : Nat := 127
abbrev n_math_bits_Mul32 : Nat := 128
abbrev n_math_bits_Mul64 : Nat := 129
abbrev ty_int : Nat := 3
abbrev ty_sl_impl_MixedTask : Nat := 23
abbrev ty_impl_MixedRun : Nat := 29
abbrev ty_impl_MixedTask : Nat := 34
abbrev ty_impl_Job : Nat := 36
abbrev ty_impl_Schedule : Nat := 40
abbrev ty_impl_Task : Nat := 43
abbrev ty_impl_Fraction : Nat := 78
abbrev ty_ptr_impl_mixed : Nat := 82
abbrev ty_impl_mixed : Nat := 84
abbrev ty_func_int_bool : Nat := 101
abbrev ty_ptr_impl_machine : Nat := 102
abbrev ty_impl_machine : Nat := 106
abbrev ty_spec_l20Rd : Nat := 115
def c_laws_FnMixedLow : LC := .seq (.ops [⟨some 2, none, .mv (.k (.b false))⟩])
    (.seq (.seq (.ops [⟨some 6, none, .mv (.t 0)⟩,
      ⟨some 7, none, .len (.t 6)⟩,
      ⟨some 8, none, .bin .gtr (.t 7) (.k (.i .i64 1048576))⟩])
    (.cond (.t 8) (.seq (.ops [⟨some 2, none, .mv (.k (.b true))⟩])
    (.ret))
    (.skip)))
    (.seq (.ops [⟨some 10, none, .mv (.t 0)⟩,
      ⟨some 11, none, .call (.k (.fn n_spec_DrawMixedLow [] [])) [.t 10]⟩,
      ⟨some 9, none, .mv (.t 11)⟩,
      ⟨some 12, none, .ext 0 (.t 9)⟩,
      ⟨some 13, none, .ext 1 (.t 9)⟩,
      ⟨some 3, none, .mv (.t 12)⟩,
      ⟨some 4, none, .mv (.t 13)⟩])
    (.seq (.ops [⟨some 14, none, .mv (.t 3)⟩,
      ⟨some 15, none, .mv (.t 4)⟩,
      ⟨some 16, none, .call (.k (.fn n_impl_RunMixed [] [])) [.t 14, .t 15]⟩,
      ⟨some 5, none, .alloc ty_impl_MixedRun [.sn, .sn, .i .i64 0]⟩,
      ⟨none, none, .st 3 (.t 5) (.t 16)⟩])
    (.seq (.seq (.plan [0, 1, 2] [⟨some 17, none, .ldn 3 (.t 5)⟩,
      ⟨some 18, none, .mv (.t 3)⟩,
      ⟨some 19, none, .mv (.t 4)⟩]
      (.one 3 ⟨some 20, none, .call (.k (.fn n_spec_RunMixed [] [])) [.t 18, .t 19]⟩ [(17, some 3, 5)] []
        []
      (.one 4 ⟨some 21, none, .call (.k (.fn n_laws_sameMixed [] [])) [.t 17, .t 20]⟩ [] [5]
        [⟨some 22, none, .not (.t 21)⟩]
      .fin)))
    (.cond (.t 22) (.seq (.ops [⟨some 2, none, .mv (.k (.b false))⟩])
    (.ret))
    (.skip)))
    (.seq (.seq (.ops [⟨some 23, none, .fa 0 (.t 5)⟩,
      ⟨some 24, none, .ld (.t 23)⟩,
      ⟨some 25, none, .len (.t 24)⟩,
      ⟨some 26, none, .bin .neq (.t 25) (.k (.i .i64 120))⟩])
    (.cond (.t 26) (.seq (.ops [⟨some 27, none, .call (.k (.fn n_laws_alive [] [])) []⟩,
      ⟨some 2, none, .mv (.t 27)⟩])
    (.ret))
    (.skip)))
    (.seq (.ops [⟨some 28, none, .fa 2 (.t 5)⟩,
      ⟨some 29, none, .ld (.t 28)⟩,
      ⟨some 30, none, .bin .eql (.t 29) (.k (.i .i64 (-1)))⟩,
      ⟨some 31, none, .mv (.t 30)⟩,
      ⟨some 32, (some (31, true)), .mv (.t 4)⟩,
      ⟨some 33, (some (31, true)), .fa 1 (.t 5)⟩,
      ⟨some 34, (some (31, true)), .ld (.t 33)⟩,
      ⟨some 35, (some (31, true)), .build [.sn, .sn] [(1, 1, .t 34)]⟩,
      ⟨some 36, (some (31, true)), .call (.k (.fn n_impl_Missed [] [])) [.t 32, .t 35]⟩,
      ⟨some 37, (some (31, true)), .len (.t 36)⟩,
      ⟨some 38, (some (31, true)), .bin .eql (.t 37) (.k (.i .i64 0))⟩,
      ⟨some 39, none, .pick (.t 31) (.t 38) (.k (.b false))⟩,
      ⟨some 2, none, .mv (.t 39)⟩])
    (.ret)))))))
theorem k_laws_FnMixedLow : chkF Try.prog Try.f4 40 c_laws_FnMixedLow [.t 2] = true := by kernel_rfl
theorem call_laws_FnMixedLow {args : List AV} {σ : List AB} {K : AV → List AB → Prop} (hn : args.length ≤ 40) (hw : wpC Try.prog σ.length 40 c_laws_FnMixedLow (retP σ.length [.t 2] K) ⟨initT 0 args, σ⟩) : CallWp Try.prog n_laws_FnMixedLow args σ K := call_fn mixed Try.func4 k_laws_FnMixedLow hn hw
def c_impl_RunMixed : LC := .seq (.ops [⟨some 4, none, .alloc ty_impl_MixedRun [.sn, .sn, .i .i64 0]⟩])
    (.seq (.ops [⟨some 10, none, .mv (.t 0)⟩,
      ⟨some 11, none, .call (.k (.fn n_impl_DeadlineScale [] [])) [.t 10]⟩,
      ⟨some 9, none, .mv (.t 11)⟩,
      ⟨some 12, none, .ext 0 (.t 9)⟩,
      ⟨some 13, none, .ext 1 (.t 9)⟩,
      ⟨some 5, none, .alloc ty_impl_Fraction [.i .i64 0, .i .i64 0]⟩,
      ⟨none, none, .st 2 (.t 5) (.t 12)⟩,
      ⟨some 6, none, .mv (.t 13)⟩])
    (.seq (.seq (.ops [⟨some 14, none, .mv (.t 6)⟩,
      ⟨some 15, none, .not (.t 14)⟩,
      ⟨some 16, none, .mv (.t 15)⟩,
      ⟨some 17, (some (16, false)), .mv (.t 0)⟩,
      ⟨some 18, (some (16, false)), .mv (.t 1)⟩,
      ⟨some 19, (some (16, false)), .call (.k (.fn n_impl_MixedLegal [] [])) [.t 17, .t 18]⟩,
      ⟨some 20, (some (16, false)), .not (.t 19)⟩,
      ⟨some 21, none, .pick (.t 16) (.k (.b true)) (.t 20)⟩])
    (.cond (.t 21) (.seq (.ops [⟨some 22, none, .build [.sn, .sn, .i .i64 0] []⟩,
      ⟨none, none, .st 3 (.t 4) (.t 22)⟩])
    (.ret))
    (.skip)))
    (.seq (.ops [⟨some 23, none, .mv (.t 0)⟩,
      ⟨some 24, none, .ldn 2 (.t 5)⟩,
      ⟨some 25, none, .build [.sn, .i .i64 0, .i .i64 0, .b false, .i .i64 0, .i .i64 0] [(0, 1, .t 23), (1, 2, .t 24), (5, 1, .k (.i .i64 (-1)))]⟩,
      ⟨some 26, none, .box ty_impl_mixed (.t 25)⟩,
      ⟨some 7, none, .mv (.t 26)⟩])
    (.seq (.ops [⟨some 27, none, .mv (.t 1)⟩,
      ⟨some 28, none, .mv (.t 7)⟩,
      ⟨some 29, none, .mkf n_impl_mixed_pick [.t 28] []⟩,
      ⟨some 30, none, .call (.k (.fn n_impl_simulate [] [])) [.t 27, .t 29]⟩,
      ⟨some 8, none, .alloc ty_impl_Schedule [.sn, .sn]⟩,
      ⟨none, none, .st 2 (.t 8) (.t 30)⟩])
    (.seq (.draw 9 [⟨some 31, none, .fa 0 (.t 8)⟩,
      ⟨some 32, none, .ld (.t 31)⟩,
      ⟨some 33, none, .fa 1 (.t 8)⟩,
      ⟨some 34, none, .ld (.t 33)⟩,
      ⟨some 35, none, .mv (.t 7)⟩,
      ⟨some 36, none, .nilc (.t 35)⟩,
      ⟨some 37, none, .fa 5 (.t 36)⟩,
      ⟨some 38, none, .ld (.t 37)⟩,
      ⟨some 39, none, .build [.sn, .sn, .i .i64 0] [(0, 1, .t 32), (1, 1, .t 34), (2, 1, .t 38)]⟩,
      ⟨none, none, .st 3 (.t 4) (.t 39)⟩])
    (.ret))))))
theorem k_impl_RunMixed : chkF Try.prog Try.f13 40 c_impl_RunMixed [.c 4 (some 3)] = true := by kernel_rfl
theorem call_impl_RunMixed {args : List AV} {σ : List AB} {K : AV → List AB → Prop} (hn : args.length ≤ 40) (hw : wpC Try.prog σ.length 40 c_impl_RunMixed (retP σ.length [.c 4 (some 3)] K) ⟨initT 0 args, σ⟩) : CallWp Try.prog n_impl_RunMixed args σ K := call_fn mixed Try.func13 k_impl_RunMixed hn hw
def c_laws_sameMixed : LC := .seq (.ops [⟨some 2, none, .box ty_impl_MixedRun (.t 0)⟩,
      ⟨some 3, none, .box ty_impl_MixedRun (.t 1)⟩,
      ⟨some 4, none, .mv (.k (.b false))⟩])
    (.seq (.ops [⟨some 5, none, .fa 0 (.t 2)⟩,
      ⟨some 6, none, .ld (.t 5)⟩,
      ⟨some 7, none, .fa 0 (.t 3)⟩,
      ⟨some 8, none, .ld (.t 7)⟩,
      ⟨some 9, none, .call (.k (.fn n_laws_sameInts [] [])) [.t 6, .t 8]⟩,
      ⟨some 10, none, .mv (.t 9)⟩,
      ⟨some 11, (some (10, true)), .fa 1 (.t 2)⟩,
      ⟨some 12, (some (10, true)), .ld (.t 11)⟩,
      ⟨some 13, (some (10, true)), .fa 1 (.t 3)⟩,
      ⟨some 14, (some (10, true)), .ld (.t 13)⟩,
      ⟨some 15, (some (10, true)), .call (.k (.fn n_laws_sameInts [] [])) [.t 12, .t 14]⟩,
      ⟨some 16, none, .pick (.t 10) (.t 15) (.k (.b false))⟩,
      ⟨some 17, none, .mv (.t 16)⟩,
      ⟨some 18, (some (17, true)), .fa 2 (.t 2)⟩,
      ⟨some 19, (some (17, true)), .ld (.t 18)⟩,
      ⟨some 20, (some (17, true)), .fa 2 (.t 3)⟩,
      ⟨some 21, (some (17, true)), .ld (.t 20)⟩,
      ⟨some 22, (some (17, true)), .bin .eql (.t 19) (.t 21)⟩,
      ⟨some 23, none, .pick (.t 17) (.t 22) (.k (.b false))⟩,
      ⟨some 4, none, .mv (.t 23)⟩])
    (.ret))
theorem k_laws_sameMixed : chkF Try.prog Try.f14 24 c_laws_sameMixed [.t 4] = true := by kernel_rfl
theorem callC_laws_sameMixed {args : List AV} {σ : List AB} {K : AV → List AB → Prop} (hn : args.length ≤ 24) (hw : Closed σ → args.all (below1 σ.length) = true → wpC Try.prog σ.length 24 c_laws_sameMixed (retP σ.length [.t 4] K) ⟨initT 0 args, σ⟩) : CallWp Try.prog n_laws_sameMixed args σ K := call_fnC mixed Try.func14 k_laws_sameMixed hn hw
def l0_spec_RunMixed : LC := .seq (.seq (.ops [⟨some 66, none, .mv (.t 13)⟩,
      ⟨some 67, none, .mv (.t 1)⟩,
      ⟨some 68, none, .len (.t 67)⟩,
      ⟨some 69, none, .bin .lss (.t 66) (.t 68)⟩])
    (.cond (.t 69) (.skip)
    (.exit 4)))
    (.seq (.block 5 (.seq (.ops [⟨some 72, none, .mv (.t 1)⟩,
      ⟨some 73, none, .mv (.t 13)⟩,
      ⟨some 74, none, .ia 4 (.t 72) (.t 73)⟩,
      ⟨some 75, none, .fa 1 (.t 74)⟩,
      ⟨some 76, none, .ld (.t 75)⟩,
      ⟨some 77, none, .mv (.t 11)⟩,
      ⟨some 78, none, .bin .lss (.t 76) (.t 77)⟩,
      ⟨some 79, none, .mv (.t 78)⟩,
      ⟨some 80, (some (79, true)), .mv (.t 0)⟩,
      ⟨some 81, (some (79, true)), .mv (.t 1)⟩,
      ⟨some 82, (some (79, true)), .mv (.t 13)⟩,
      ⟨some 83, (some (79, true)), .ia 4 (.t 81) (.t 82)⟩,
      ⟨some 84, (some (79, true)), .fa 0 (.t 83)⟩,
      ⟨some 85, (some (79, true)), .ld (.t 84)⟩,
      ⟨some 86, (some (79, true)), .ia 4 (.t 80) (.t 85)⟩,
      ⟨some 87, (some (79, true)), .fa 3 (.t 86)⟩,
      ⟨some 88, (some (79, true)), .ld (.t 87)⟩,
      ⟨some 89, (some (79, true)), .not (.t 88)⟩,
      ⟨some 90, none, .pick (.t 79) (.t 89) (.k (.b false))⟩])
    (.cond (.t 90) (.ops [⟨some 91, none, .mv (.t 8)⟩,
      ⟨some 92, none, .mv (.t 13)⟩,
      ⟨some 93, none, .ia 1 (.t 91) (.t 92)⟩,
      ⟨none, none, .st 1 (.t 93) (.k (.i .i64 0))⟩])
    (.skip))))
    (.ops [⟨some 70, none, .mv (.t 13)⟩,
      ⟨some 71, none, .bin .add (.t 70) (.k (.i .i64 1))⟩,
      ⟨some 13, none, .mv (.t 71)⟩]))
def l1_spec_RunMixed : LC := .seq (.seq (.ops [⟨some 50, none, .mv (.t 11)⟩,
      ⟨some 51, none, .bin .lss (.t 50) (.k (.i .i64 120))⟩])
    (.cond (.t 51) (.skip)
    (.exit 2)))
    (.seq (.block 3 (.seq (.ops [⟨some 54, none, .mv (.t 0)⟩,
      ⟨some 55, none, .mv (.t 1)⟩,
      ⟨some 56, none, .mv (.t 8)⟩,
      ⟨some 57, none, .ldn 2 (.t 5)⟩,
      ⟨some 58, none, .mv (.t 10)⟩,
      ⟨some 59, none, .mv (.t 11)⟩,
      ⟨some 60, none, .call (.k (.fn n_spec_l15Best [] [])) [.t 54, .t 55, .t 56, .t 57, .t 58, .t 59]⟩,
      ⟨some 12, none, .mv (.t 60)⟩])
    (.join (.seq (.ops [⟨some 61, none, .mv (.t 10)⟩,
      ⟨some 62, none, .mv (.t 61)⟩,
      ⟨some 63, (some (62, true)), .mv (.t 12)⟩,
      ⟨some 64, (some (62, true)), .bin .lss (.t 63) (.k (.i .i64 0))⟩,
      ⟨some 65, none, .pick (.t 62) (.t 64) (.k (.b false))⟩])
    (.cond (.t 65) (.seq (.ops [⟨some 10, none, .mv (.k (.b false))⟩])
    (.seq (.seq (.ops [⟨some 13, none, .mv (.k (.i .i64 0))⟩])
    (.block 4 (.loop l0_spec_RunMixed)))
    (.ops [⟨some 94, none, .mv (.t 0)⟩,
      ⟨some 95, none, .mv (.t 1)⟩,
      ⟨some 96, none, .mv (.t 8)⟩,
      ⟨some 97, none, .ldn 2 (.t 5)⟩,
      ⟨some 98, none, .mv (.t 10)⟩,
      ⟨some 99, none, .mv (.t 11)⟩,
      ⟨some 100, none, .call (.k (.fn n_spec_l15Best [] [])) [.t 94, .t 95, .t 96, .t 97, .t 98, .t 99]⟩,
      ⟨some 12, none, .mv (.t 100)⟩])))
    (.skip)))
    (.seq (.ops [⟨some 101, none, .fa 0 (.t 7)⟩,
      ⟨some 102, none, .ld (.t 101)⟩,
      ⟨some 103, none, .mv (.t 12)⟩,
      ⟨some 104, none, .bsl ty_int [.i .i64 0] 1 [(0, 1, .t 103)]⟩,
      ⟨some 105, none, .app ty_int 1 8 (.t 102) (.t 104)⟩,
      ⟨some 106, none, .fa 0 (.t 7)⟩,
      ⟨none, none, .st 1 (.t 106) (.t 105)⟩])
    (.seq (.seq (.ops [⟨some 107, none, .mv (.t 12)⟩,
      ⟨some 108, none, .bin .lss (.t 107) (.k (.i .i64 0))⟩])
    (.cond (.t 108) (.exit 3)
    (.skip)))
    (.seq (.ops [⟨some 109, none, .mv (.t 8)⟩,
      ⟨some 110, none, .mv (.t 12)⟩,
      ⟨some 111, none, .mv (.t 8)⟩,
      ⟨some 112, none, .mv (.t 12)⟩,
      ⟨some 113, none, .ia 1 (.t 111) (.t 112)⟩,
      ⟨some 114, none, .ld (.t 113)⟩,
      ⟨some 115, none, .bin .sub (.t 114) (.k (.i .i64 1))⟩,
      ⟨some 116, none, .ia 1 (.t 109) (.t 110)⟩,
      ⟨none, none, .st 1 (.t 116) (.t 115)⟩])
    (.join (.seq (.ops [⟨some 117, none, .mv (.t 8)⟩,
      ⟨some 118, none, .mv (.t 12)⟩,
      ⟨some 119, none, .ia 1 (.t 117) (.t 118)⟩,
      ⟨some 120, none, .ld (.t 119)⟩,
      ⟨some 121, none, .bin .eql (.t 120) (.k (.i .i64 0))⟩])
    (.cond (.t 121) (.ops [⟨some 122, none, .fa 1 (.t 7)⟩,
      ⟨some 123, none, .ld (.t 122)⟩,
      ⟨some 124, none, .mv (.t 12)⟩,
      ⟨some 125, none, .mv (.t 11)⟩,
      ⟨some 126, none, .bin .add (.t 125) (.k (.i .i64 1))⟩,
      ⟨some 127, none, .ia 1 (.t 123) (.t 124)⟩,
      ⟨none, none, .st 1 (.t 127) (.t 126)⟩])
    (.skip)))
    (.seq (.ops [⟨some 128, none, .mv (.t 0)⟩,
      ⟨some 129, none, .mv (.t 1)⟩,
      ⟨some 130, none, .mv (.t 12)⟩,
      ⟨some 131, none, .ia 4 (.t 129) (.t 130)⟩,
      ⟨some 132, none, .fa 0 (.t 131)⟩,
      ⟨some 133, none, .ld (.t 132)⟩,
      ⟨some 134, none, .ia 4 (.t 128) (.t 133)⟩,
      ⟨some 135, none, .ldn 4 (.t 134)⟩,
      ⟨some 14, none, .alloc ty_impl_MixedTask [.i .i64 0, .i .i64 0, .i .i64 0, .b false]⟩,
      ⟨none, none, .st 4 (.t 14) (.t 135)⟩])
    (.seq (.draw 28 [⟨some 136, none, .fa 3 (.t 14)⟩,
      ⟨some 137, none, .ld (.t 136)⟩,
      ⟨some 138, none, .mv (.t 137)⟩,
      ⟨some 139, (some (138, true)), .mv (.t 10)⟩,
      ⟨some 140, (some (138, true)), .not (.t 139)⟩,
      ⟨some 141, none, .pick (.t 138) (.t 140) (.k (.b false))⟩,
      ⟨some 142, none, .mv (.t 141)⟩,
      ⟨some 143, (some (142, true)), .mv (.t 8)⟩,
      ⟨some 144, (some (142, true)), .mv (.t 12)⟩,
      ⟨some 145, (some (142, true)), .ia 1 (.t 143) (.t 144)⟩,
      ⟨some 146, (some (142, true)), .ld (.t 145)⟩,
      ⟨some 147, (some (142, true)), .bin .gtr (.t 146) (.k (.i .i64 0))⟩,
      ⟨some 148, none, .pick (.t 142) (.t 147) (.k (.b false))⟩,
      ⟨some 149, none, .mv (.t 148)⟩,
      ⟨some 150, (some (149, true)), .mv (.t 1)⟩,
      ⟨some 151, (some (149, true)), .mv (.t 12)⟩,
      ⟨some 152, (some (149, true)), .ia 4 (.t 150) (.t 151)⟩,
      ⟨some 153, (some (149, true)), .fa 3 (.t 152)⟩,
      ⟨some 154, (some (149, true)), .ld (.t 153)⟩,
      ⟨some 155, (some (149, true)), .mv (.t 8)⟩,
      ⟨some 156, (some (149, true)), .mv (.t 12)⟩,
      ⟨some 157, (some (149, true)), .ia 1 (.t 155) (.t 156)⟩,
      ⟨some 158, (some (149, true)), .ld (.t 157)⟩,
      ⟨some 159, (some (149, true)), .bin .sub (.t 154) (.t 158)⟩,
      ⟨some 160, (some (149, true)), .fa 0 (.t 14)⟩,
      ⟨some 161, (some (149, true)), .ld (.t 160)⟩,
      ⟨some 162, (some (149, true)), .bin .geq (.t 159) (.t 161)⟩,
      ⟨some 163, none, .pick (.t 149) (.t 162) (.k (.b false))⟩])
    (.cond (.t 163) (.seq (.ops [⟨some 10, none, .mv (.k (.b true))⟩])
    (.seq (.ops [⟨some 164, none, .fa 2 (.t 7)⟩,
      ⟨some 165, none, .ld (.t 164)⟩,
      ⟨some 166, none, .bin .lss (.t 165) (.k (.i .i64 0))⟩])
    (.cond (.t 166) (.ops [⟨some 167, none, .mv (.t 11)⟩,
      ⟨some 168, none, .bin .add (.t 167) (.k (.i .i64 1))⟩,
      ⟨some 169, none, .fa 2 (.t 7)⟩,
      ⟨none, none, .st 1 (.t 169) (.t 168)⟩])
    (.skip))))
    (.skip)))))))))))
    (.ops [⟨some 52, none, .mv (.t 11)⟩,
      ⟨some 53, none, .bin .add (.t 52) (.k (.i .i64 1))⟩,
      ⟨some 11, none, .mv (.t 53)⟩]))
def l2_spec_RunMixed : LC := .seq (.seq (.ops [⟨some 31, none, .mv (.t 9)⟩,
      ⟨some 32, none, .mv (.t 1)⟩,
      ⟨some 33, none, .len (.t 32)⟩,
      ⟨some 34, none, .bin .lss (.t 31) (.t 33)⟩])
    (.cond (.t 34) (.skip)
    (.exit 0)))
    (.seq (.block 1 (.seq (.ops [⟨some 37, none, .mv (.t 8)⟩,
      ⟨some 38, none, .mv (.t 1)⟩,
      ⟨some 39, none, .mv (.t 9)⟩,
      ⟨some 40, none, .ia 4 (.t 38) (.t 39)⟩,
      ⟨some 41, none, .fa 3 (.t 40)⟩,
      ⟨some 42, none, .ld (.t 41)⟩,
      ⟨some 43, none, .bsl ty_int [.i .i64 0] 1 [(0, 1, .t 42)]⟩,
      ⟨some 44, none, .app ty_int 1 8 (.t 37) (.t 43)⟩,
      ⟨some 8, none, .mv (.t 44)⟩])
    (.ops [⟨some 45, none, .fa 1 (.t 7)⟩,
      ⟨some 46, none, .ld (.t 45)⟩,
      ⟨some 47, none, .bsl ty_int [.i .i64 0] 1 [(0, 1, .k (.i .i64 (-1)))]⟩,
      ⟨some 48, none, .app ty_int 1 8 (.t 46) (.t 47)⟩,
      ⟨some 49, none, .fa 1 (.t 7)⟩,
      ⟨none, none, .st 1 (.t 49) (.t 48)⟩])))
    (.ops [⟨some 35, none, .mv (.t 9)⟩,
      ⟨some 36, none, .bin .add (.t 35) (.k (.i .i64 1))⟩,
      ⟨some 9, none, .mv (.t 36)⟩]))
def c_spec_RunMixed : LC := .seq (.ops [⟨some 4, none, .alloc ty_impl_MixedRun [.sn, .sn, .i .i64 0]⟩])
    (.seq (.ops [⟨some 16, none, .mv (.t 0)⟩,
      ⟨some 17, none, .call (.k (.fn n_spec_DeadlineScale [] [])) [.t 16]⟩,
      ⟨some 15, none, .mv (.t 17)⟩,
      ⟨some 18, none, .ext 0 (.t 15)⟩,
      ⟨some 19, none, .ext 1 (.t 15)⟩,
      ⟨some 5, none, .alloc ty_impl_Fraction [.i .i64 0, .i .i64 0]⟩,
      ⟨none, none, .st 2 (.t 5) (.t 18)⟩,
      ⟨some 6, none, .mv (.t 19)⟩])
    (.seq (.seq (.ops [⟨some 20, none, .mv (.t 6)⟩,
      ⟨some 21, none, .not (.t 20)⟩,
      ⟨some 22, none, .mv (.t 21)⟩,
      ⟨some 23, (some (22, false)), .mv (.t 0)⟩,
      ⟨some 24, (some (22, false)), .mv (.t 1)⟩,
      ⟨some 25, (some (22, false)), .call (.k (.fn n_spec_MixedLegal [] [])) [.t 23, .t 24]⟩,
      ⟨some 26, (some (22, false)), .not (.t 25)⟩,
      ⟨some 27, none, .pick (.t 22) (.k (.b true)) (.t 26)⟩])
    (.cond (.t 27) (.seq (.ops [⟨some 28, none, .build [.sn, .sn, .i .i64 0] []⟩,
      ⟨none, none, .st 3 (.t 4) (.t 28)⟩])
    (.ret))
    (.skip)))
    (.seq (.ops [⟨some 29, none, .build [.sn, .sn, .i .i64 0] [(2, 1, .k (.i .i64 (-1)))]⟩,
      ⟨some 7, none, .alloc ty_impl_MixedRun [.sn, .sn, .i .i64 0]⟩,
      ⟨none, none, .st 3 (.t 7) (.t 29)⟩])
    (.seq (.ops [⟨some 30, none, .bsl ty_int [.i .i64 0] 0 []⟩,
      ⟨some 8, none, .mv (.t 30)⟩])
    (.seq (.seq (.ops [⟨some 9, none, .mv (.k (.i .i64 0))⟩])
    (.block 0 (.loop l2_spec_RunMixed)))
    (.seq (.ops [⟨some 10, none, .mv (.k (.b false))⟩])
    (.seq (.seq (.ops [⟨some 11, none, .mv (.k (.i .i64 0))⟩])
    (.block 2 (.loop l1_spec_RunMixed)))
    (.seq (.ops [⟨some 170, none, .ldn 3 (.t 7)⟩,
      ⟨none, none, .st 3 (.t 4) (.t 170)⟩])
    (.ret)))))))))
theorem k_spec_RunMixed : chkF Try.prog Try.f15 171 c_spec_RunMixed [.c 4 (some 3)] = true := by kernel_rfl
theorem call_spec_RunMixed {args : List AV} {σ : List AB} {K : AV → List AB → Prop} (hn : args.length ≤ 171) (hw : wpC Try.prog σ.length 171 c_spec_RunMixed (retP σ.length [.c 4 (some 3)] K) ⟨initT 0 args, σ⟩) : CallWp Try.prog n_spec_RunMixed args σ K := call_fn mixed Try.func15 k_spec_RunMixed hn hw
def c_laws_alive : LC := .seq (.ops [⟨some 0, none, .mv (.k (.b false))⟩])
    (.seq (.ops [⟨some 1, none, .build [.i .i64 0, .i .i64 0, .i .i64 0] [(0, 1, .k (.i .i64 1)), (1, 1, .k (.i .i64 1)), (2, 1, .k (.i .i64 1))]⟩,
      ⟨some 2, none, .call (.k (.fn n_impl_TaskValid [] [])) [.t 1]⟩,
      ⟨some 0, none, .mv (.t 2)⟩])
    (.ret))
theorem k_laws_alive : chkF Try.prog Try.f16 3 c_laws_alive [.t 0] = true := by kernel_rfl
theorem call_laws_alive {args : List AV} {σ : List AB} {K : AV → List AB → Prop} (hn : args.length ≤ 3) (hw : wpC Try.prog σ.length 3 c_laws_alive (retP σ.length [.t 0] K) ⟨initT 0 args, σ⟩) : CallWp Try.prog n_laws_alive args σ K := call_fn mixed Try.func16 k_laws_alive hn hw
def c_spec_DrawMixedLow : LC := .seq (.ops [⟨some 2, none, .mv (.k (.sn))⟩,
      ⟨some 3, none, .mv (.k (.sn))⟩])
    (.seq (.ops [⟨some 6, none, .mv (.t 0)⟩,
      ⟨some 7, none, .call (.k (.fn n_spec_l20Open [] [])) [.t 6]⟩,
      ⟨some 4, none, .mv (.t 7)⟩])
    (.seq (.ops [⟨some 8, none, .mv (.t 4)⟩,
      ⟨some 9, none, .call (.k (.fn n_spec_l20Mixed [] [])) [.t 8, .k (.i .i64 0)]⟩,
      ⟨some 5, none, .mv (.t 9)⟩])
    (.seq (.ops [⟨some 10, none, .mv (.t 5)⟩,
      ⟨some 11, none, .mv (.t 4)⟩,
      ⟨some 12, none, .mv (.t 5)⟩,
      ⟨some 13, none, .call (.k (.fn n_spec_l20MixedJobs [] [])) [.t 11, .t 12, .k (.b true), .k (.i .i64 0)]⟩,
      ⟨some 2, none, .mv (.t 10)⟩,
      ⟨some 3, none, .mv (.t 13)⟩])
    (.ret))))
theorem k_spec_DrawMixedLow : chkF Try.prog Try.f17 14 c_spec_DrawMixedLow [.t 2, .t 3] = true := by kernel_rfl
theorem call_spec_DrawMixedLow {args : List AV} {σ : List AB} {K : AV → List AB → Prop} (hn : args.length ≤ 14) (hw : wpC Try.prog σ.length 14 c_spec_DrawMixedLow (retP σ.length [.t 2, .t 3] K) ⟨initT 0 args, σ⟩) : CallWp Try.prog n_spec_DrawMixedLow args σ K := call_fn mixed Try.func17 k_spec_DrawMixedLow hn hw
def c_impl_Missed : LC := .seq (.ops [⟨some 3, none, .box ty_impl_Schedule (.t 1)⟩,
      ⟨some 4, none, .mv (.k (.sn))⟩])
    (.seq (.ops [⟨some 5, none, .mv (.t 0)⟩,
      ⟨some 6, none, .fa 1 (.t 3)⟩,
      ⟨some 7, none, .ld (.t 6)⟩,
      ⟨some 8, none, .call (.k (.fn n_impl_missed [] [])) [.t 5, .t 7]⟩,
      ⟨some 4, none, .mv (.t 8)⟩])
    (.ret))
theorem k_impl_Missed : chkF Try.prog Try.f18 9 c_impl_Missed [.t 4] = true := by kernel_rfl
theorem callC_impl_Missed {args : List AV} {σ : List AB} {K : AV → List AB → Prop} (hn : args.length ≤ 9) (hw : Closed σ → args.all (below1 σ.length) = true → wpC Try.prog σ.length 9 c_impl_Missed (retP σ.length [.t 4] K) ⟨initT 0 args, σ⟩) : CallWp Try.prog n_impl_Missed args σ K := call_fnC mixed Try.func18 k_impl_Missed hn hw
def l0_laws_sameInts : LC := .seq (.seq (.ops [⟨some 11, none, .mv (.t 5)⟩,
      ⟨some 12, none, .mv (.t 0)⟩,
      ⟨some 13, none, .len (.t 12)⟩,
      ⟨some 14, none, .bin .lss (.t 11) (.t 13)⟩])
    (.cond (.t 14) (.skip)
    (.exit 0)))
    (.seq (.block 1 (.seq (.draw 9 [⟨some 17, none, .mv (.t 0)⟩,
      ⟨some 18, none, .mv (.t 5)⟩,
      ⟨some 19, none, .ia 1 (.t 17) (.t 18)⟩,
      ⟨some 20, none, .ld (.t 19)⟩,
      ⟨some 21, none, .mv (.t 1)⟩,
      ⟨some 22, none, .mv (.t 5)⟩,
      ⟨some 23, none, .ia 1 (.t 21) (.t 22)⟩,
      ⟨some 24, none, .ld (.t 23)⟩,
      ⟨some 25, none, .bin .neq (.t 20) (.t 24)⟩])
    (.cond (.t 25) (.seq (.ops [⟨some 4, none, .mv (.k (.b false))⟩])
    (.ret))
    (.skip))))
    (.ops [⟨some 15, none, .mv (.t 5)⟩,
      ⟨some 16, none, .bin .add (.t 15) (.k (.i .i64 1))⟩,
      ⟨some 5, none, .mv (.t 16)⟩]))
def c_laws_sameInts : LC := .seq (.ops [⟨some 4, none, .mv (.k (.b false))⟩])
    (.seq (.seq (.ops [⟨some 6, none, .mv (.t 0)⟩,
      ⟨some 7, none, .len (.t 6)⟩,
      ⟨some 8, none, .mv (.t 1)⟩,
      ⟨some 9, none, .len (.t 8)⟩,
      ⟨some 10, none, .bin .neq (.t 7) (.t 9)⟩])
    (.cond (.t 10) (.seq (.ops [⟨some 4, none, .mv (.k (.b false))⟩])
    (.ret))
    (.skip)))
    (.seq (.seq (.ops [⟨some 5, none, .mv (.k (.i .i64 0))⟩])
    (.block 0 (.loop l0_laws_sameInts)))
    (.seq (.ops [⟨some 4, none, .mv (.k (.b true))⟩])
    (.ret))))
theorem k_laws_sameInts : chkF Try.prog Try.f21 26 c_laws_sameInts [.t 4] = true := by kernel_rfl
theorem call_laws_sameInts {args : List AV} {σ : List AB} {K : AV → List AB → Prop} (hn : args.length ≤ 26) (hw : wpC Try.prog σ.length 26 c_laws_sameInts (retP σ.length [.t 4] K) ⟨initT 0 args, σ⟩) : CallWp Try.prog n_laws_sameInts args σ K := call_fn mixed Try.func21 k_laws_sameInts hn hw
def c_spec_l20Open : LC := .seq (.ops [⟨some 2, none, .mv (.k (.pn))⟩])
    (.join (.seq (.ops [⟨some 3, none, .mv (.t 0)⟩,
      ⟨some 4, none, .len (.t 3)⟩,
      ⟨some 5, none, .bin .gtr (.t 4) (.k (.i .i64 2000))⟩])
    (.cond (.t 5) (.ops [⟨some 6, none, .mv (.t 0)⟩,
      ⟨some 7, none, .slc 1 (.t 6) none (some (.k (.i .i64 2000))) none⟩,
      ⟨some 0, none, .mv (.t 7)⟩])
    (.skip)))
    (.seq (.ops [⟨some 8, none, .mv (.t 0)⟩,
      ⟨some 9, none, .build [.sn, .i .i64 0] [(0, 1, .t 8)]⟩,
      ⟨some 10, none, .box ty_spec_l20Rd (.t 9)⟩,
      ⟨some 2, none, .mv (.t 10)⟩])
    (.ret)))
theorem k_spec_l20Open : chkF Try.prog Try.f43 11 c_spec_l20Open [.t 2] = true := by kernel_rfl
theorem call_spec_l20Open {args : List AV} {σ : List AB} {K : AV → List AB → Prop} (hn : args.length ≤ 11) (hw : wpC Try.prog σ.length 11 c_spec_l20Open (retP σ.length [.t 2] K) ⟨initT 0 args, σ⟩) : CallWp Try.prog n_spec_l20Open args σ K := call_fn mixed Try.func43 k_spec_l20Open hn hw
def l0_spec_l20Mixed : LC := .seq (.seq (.ops [⟨some 58, none, .mv (.t 5)⟩,
      ⟨some 59, none, .len (.t 58)⟩,
      ⟨some 60, none, .bin .leq (.t 59) (.k (.i .i64 5))⟩])
    (.cond (.t 60) (.skip)
    (.exit 2)))
    (.block 3 (.ops [⟨some 61, none, .mv (.t 5)⟩,
      ⟨some 62, none, .build [.i .i64 0, .i .i64 0, .i .i64 0, .b false] [(0, 1, .k (.i .i64 1)), (1, 1, .k (.i .i64 1)), (2, 1, .k (.i .i64 12))]⟩,
      ⟨some 63, none, .bsl ty_impl_MixedTask [.i .i64 0, .i .i64 0, .i .i64 0, .b false] 1 [(0, 4, .t 62)]⟩,
      ⟨some 64, none, .app ty_impl_MixedTask 4 32 (.t 61) (.t 63)⟩,
      ⟨some 5, none, .mv (.t 64)⟩]))
def l1_spec_l20Mixed : LC := .seq (.seq (.ops [⟨some 11, none, .mv (.t 6)⟩,
      ⟨some 12, none, .bin .gtr (.t 11) (.k (.i .i64 0))⟩])
    (.cond (.t 12) (.skip)
    (.exit 0)))
    (.seq (.block 1 (.join (.plan [0, 4, 8] [⟨some 15, none, .mv (.t 0)⟩,
      ⟨some 19, none, .mv (.t 0)⟩,
      ⟨some 23, none, .mv (.t 0)⟩]
      (.alt (.one 1 ⟨some 16, none, .call (.k (.fn n_spec_l20Rd_pick [] [])) [.t 15, .k (.i .i64 10)]⟩ [] [2]
        [⟨some 17, none, .bin .add (.k (.i .i64 3)) (.t 16)⟩]
      (.alt (.one 3 ⟨some 18, none, .bsl ty_int [.i .i64 0] 5 [(0, 1, .k (.i .i64 4)), (1, 1, .k (.i .i64 6)), (2, 1, .k (.i .i64 8)), (3, 1, .k (.i .i64 12)), (4, 1, .t 17)]⟩ [] []
        []
      (.alt (.one 5 ⟨some 20, none, .call (.k (.fn n_spec_l20Rd_pick [] [])) [.t 19, .k (.i .i64 5)]⟩ [] [6, 7]
        [⟨some 21, none, .ia 1 (.t 18) (.t 20)⟩,
        ⟨some 22, none, .ld (.t 21)⟩]
      (.alt (.one 9 ⟨some 24, none, .call (.k (.fn n_spec_l20Rd_pick [] [])) [.t 23, .k (.i .i64 2)]⟩ [(22, none, 21)] [10, 11]
        [⟨some 25, none, .bin .eql (.t 24) (.k (.i .i64 0))⟩,
        ⟨some 26, none, .build [.i .i64 0, .i .i64 0, .i .i64 0, .b false] [(2, 1, .t 22), (3, 1, .t 25)]⟩]
      (.one 12 ⟨some 7, none, .alloc ty_impl_MixedTask [.i .i64 0, .i .i64 0, .i .i64 0, .b false]⟩ [(22, none, 21)] []
        []
      (.one 13 ⟨none, none, .st 4 (.t 7) (.t 26)⟩ [] []
        []
      .fin))) (.one 12 ⟨some 7, none, .alloc ty_impl_MixedTask [.i .i64 0, .i .i64 0, .i .i64 0, .b false]⟩ [(22, none, 21)] []
        []
      (.one 9 ⟨some 24, none, .call (.k (.fn n_spec_l20Rd_pick [] [])) [.t 23, .k (.i .i64 2)]⟩ [(22, none, 21)] [10, 11]
        [⟨some 25, none, .bin .eql (.t 24) (.k (.i .i64 0))⟩,
        ⟨some 26, none, .build [.i .i64 0, .i .i64 0, .i .i64 0, .b false] [(2, 1, .t 22), (3, 1, .t 25)]⟩]
      (.one 13 ⟨none, none, .st 4 (.t 7) (.t 26)⟩ [] []
        []
      .fin))))) (.one 12 ⟨some 7, none, .alloc ty_impl_MixedTask [.i .i64 0, .i .i64 0, .i .i64 0, .b false]⟩ [] []
        []
      (.one 5 ⟨some 20, none, .call (.k (.fn n_spec_l20Rd_pick [] [])) [.t 19, .k (.i .i64 5)]⟩ [] [6, 7]
        [⟨some 21, none, .ia 1 (.t 18) (.t 20)⟩,
        ⟨some 22, none, .ld (.t 21)⟩]
      (.one 9 ⟨some 24, none, .call (.k (.fn n_spec_l20Rd_pick [] [])) [.t 23, .k (.i .i64 2)]⟩ [(22, none, 21)] [10, 11]
        [⟨some 25, none, .bin .eql (.t 24) (.k (.i .i64 0))⟩,
        ⟨some 26, none, .build [.i .i64 0, .i .i64 0, .i .i64 0, .b false] [(2, 1, .t 22), (3, 1, .t 25)]⟩]
      (.one 13 ⟨none, none, .st 4 (.t 7) (.t 26)⟩ [] []
        []
      .fin)))))) (.alt (.one 5 ⟨some 20, none, .call (.k (.fn n_spec_l20Rd_pick [] [])) [.t 19, .k (.i .i64 5)]⟩ [] []
        []
      (.alt (.one 3 ⟨some 18, none, .bsl ty_int [.i .i64 0] 5 [(0, 1, .k (.i .i64 4)), (1, 1, .k (.i .i64 6)), (2, 1, .k (.i .i64 8)), (3, 1, .k (.i .i64 12)), (4, 1, .t 17)]⟩ [] [6, 7]
        [⟨some 21, none, .ia 1 (.t 18) (.t 20)⟩,
        ⟨some 22, none, .ld (.t 21)⟩]
      (.alt (.one 9 ⟨some 24, none, .call (.k (.fn n_spec_l20Rd_pick [] [])) [.t 23, .k (.i .i64 2)]⟩ [(22, none, 21)] [10, 11]
        [⟨some 25, none, .bin .eql (.t 24) (.k (.i .i64 0))⟩,
        ⟨some 26, none, .build [.i .i64 0, .i .i64 0, .i .i64 0, .b false] [(2, 1, .t 22), (3, 1, .t 25)]⟩]
      (.one 12 ⟨some 7, none, .alloc ty_impl_MixedTask [.i .i64 0, .i .i64 0, .i .i64 0, .b false]⟩ [(22, none, 21)] []
        []
      (.one 13 ⟨none, none, .st 4 (.t 7) (.t 26)⟩ [] []
        []
      .fin))) (.one 12 ⟨some 7, none, .alloc ty_impl_MixedTask [.i .i64 0, .i .i64 0, .i .i64 0, .b false]⟩ [(22, none, 21)] []
        []
      (.one 9 ⟨some 24, none, .call (.k (.fn n_spec_l20Rd_pick [] [])) [.t 23, .k (.i .i64 2)]⟩ [(22, none, 21)] [10, 11]
        [⟨some 25, none, .bin .eql (.t 24) (.k (.i .i64 0))⟩,
        ⟨some 26, none, .build [.i .i64 0, .i .i64 0, .i .i64 0, .b false] [(2, 1, .t 22), (3, 1, .t 25)]⟩]
      (.one 13 ⟨none, none, .st 4 (.t 7) (.t 26)⟩ [] []
        []
      .fin))))) (.alt (.one 9 ⟨some 24, none, .call (.k (.fn n_spec_l20Rd_pick [] [])) [.t 23, .k (.i .i64 2)]⟩ [] [10]
        [⟨some 25, none, .bin .eql (.t 24) (.k (.i .i64 0))⟩]
      (.alt (.one 3 ⟨some 18, none, .bsl ty_int [.i .i64 0] 5 [(0, 1, .k (.i .i64 4)), (1, 1, .k (.i .i64 6)), (2, 1, .k (.i .i64 8)), (3, 1, .k (.i .i64 12)), (4, 1, .t 17)]⟩ [] [6, 7, 11]
        [⟨some 21, none, .ia 1 (.t 18) (.t 20)⟩,
        ⟨some 22, none, .ld (.t 21)⟩,
        ⟨some 26, none, .build [.i .i64 0, .i .i64 0, .i .i64 0, .b false] [(2, 1, .t 22), (3, 1, .t 25)]⟩]
      (.one 12 ⟨some 7, none, .alloc ty_impl_MixedTask [.i .i64 0, .i .i64 0, .i .i64 0, .b false]⟩ [(22, none, 21)] []
        []
      (.one 13 ⟨none, none, .st 4 (.t 7) (.t 26)⟩ [] []
        []
      .fin))) (.one 12 ⟨some 7, none, .alloc ty_impl_MixedTask [.i .i64 0, .i .i64 0, .i .i64 0, .b false]⟩ [] []
        []
      (.one 3 ⟨some 18, none, .bsl ty_int [.i .i64 0] 5 [(0, 1, .k (.i .i64 4)), (1, 1, .k (.i .i64 6)), (2, 1, .k (.i .i64 8)), (3, 1, .k (.i .i64 12)), (4, 1, .t 17)]⟩ [] [6, 7, 11]
        [⟨some 21, none, .ia 1 (.t 18) (.t 20)⟩,
        ⟨some 22, none, .ld (.t 21)⟩,
        ⟨some 26, none, .build [.i .i64 0, .i .i64 0, .i .i64 0, .b false] [(2, 1, .t 22), (3, 1, .t 25)]⟩]
      (.one 13 ⟨none, none, .st 4 (.t 7) (.t 26)⟩ [] []
        []
      .fin))))) (.one 12 ⟨some 7, none, .alloc ty_impl_MixedTask [.i .i64 0, .i .i64 0, .i .i64 0, .b false]⟩ [] []
        []
      (.alt (.one 3 ⟨some 18, none, .bsl ty_int [.i .i64 0] 5 [(0, 1, .k (.i .i64 4)), (1, 1, .k (.i .i64 6)), (2, 1, .k (.i .i64 8)), (3, 1, .k (.i .i64 12)), (4, 1, .t 17)]⟩ [] [6, 7]
        [⟨some 21, none, .ia 1 (.t 18) (.t 20)⟩,
        ⟨some 22, none, .ld (.t 21)⟩]
      (.one 9 ⟨some 24, none, .call (.k (.fn n_spec_l20Rd_pick [] [])) [.t 23, .k (.i .i64 2)]⟩ [(22, none, 21)] [10, 11]
        [⟨some 25, none, .bin .eql (.t 24) (.k (.i .i64 0))⟩,
        ⟨some 26, none, .build [.i .i64 0, .i .i64 0, .i .i64 0, .b false] [(2, 1, .t 22), (3, 1, .t 25)]⟩]
      (.one 13 ⟨none, none, .st 4 (.t 7) (.t 26)⟩ [] []
        []
      .fin))) (.one 9 ⟨some 24, none, .call (.k (.fn n_spec_l20Rd_pick [] [])) [.t 23, .k (.i .i64 2)]⟩ [] [10]
        [⟨some 25, none, .bin .eql (.t 24) (.k (.i .i64 0))⟩]
      (.one 3 ⟨some 18, none, .bsl ty_int [.i .i64 0] 5 [(0, 1, .k (.i .i64 4)), (1, 1, .k (.i .i64 6)), (2, 1, .k (.i .i64 8)), (3, 1, .k (.i .i64 12)), (4, 1, .t 17)]⟩ [] [6, 7, 11]
        [⟨some 21, none, .ia 1 (.t 18) (.t 20)⟩,
        ⟨some 22, none, .ld (.t 21)⟩,
        ⟨some 26, none, .build [.i .i64 0, .i .i64 0, .i .i64 0, .b false] [(2, 1, .t 22), (3, 1, .t 25)]⟩]
      (.one 13 ⟨none, none, .st 4 (.t 7) (.t 26)⟩ [] []
        []
      .fin)))))))) (.one 12 ⟨some 7, none, .alloc ty_impl_MixedTask [.i .i64 0, .i .i64 0, .i .i64 0, .b false]⟩ [] []
        []
      (.alt (.one 3 ⟨some 18, none, .bsl ty_int [.i .i64 0] 5 [(0, 1, .k (.i .i64 4)), (1, 1, .k (.i .i64 6)), (2, 1, .k (.i .i64 8)), (3, 1, .k (.i .i64 12)), (4, 1, .t 17)]⟩ [] []
        []
      (.one 5 ⟨some 20, none, .call (.k (.fn n_spec_l20Rd_pick [] [])) [.t 19, .k (.i .i64 5)]⟩ [] [6, 7]
        [⟨some 21, none, .ia 1 (.t 18) (.t 20)⟩,
        ⟨some 22, none, .ld (.t 21)⟩]
      (.one 9 ⟨some 24, none, .call (.k (.fn n_spec_l20Rd_pick [] [])) [.t 23, .k (.i .i64 2)]⟩ [(22, none, 21)] [10, 11]
        [⟨some 25, none, .bin .eql (.t 24) (.k (.i .i64 0))⟩,
        ⟨some 26, none, .build [.i .i64 0, .i .i64 0, .i .i64 0, .b false] [(2, 1, .t 22), (3, 1, .t 25)]⟩]
      (.one 13 ⟨none, none, .st 4 (.t 7) (.t 26)⟩ [] []
        []
      .fin)))) (.one 5 ⟨some 20, none, .call (.k (.fn n_spec_l20Rd_pick [] [])) [.t 19, .k (.i .i64 5)]⟩ [] []
        []
      (.alt (.one 3 ⟨some 18, none, .bsl ty_int [.i .i64 0] 5 [(0, 1, .k (.i .i64 4)), (1, 1, .k (.i .i64 6)), (2, 1, .k (.i .i64 8)), (3, 1, .k (.i .i64 12)), (4, 1, .t 17)]⟩ [] [6, 7]
        [⟨some 21, none, .ia 1 (.t 18) (.t 20)⟩,
        ⟨some 22, none, .ld (.t 21)⟩]
      (.one 9 ⟨some 24, none, .call (.k (.fn n_spec_l20Rd_pick [] [])) [.t 23, .k (.i .i64 2)]⟩ [(22, none, 21)] [10, 11]
        [⟨some 25, none, .bin .eql (.t 24) (.k (.i .i64 0))⟩,
        ⟨some 26, none, .build [.i .i64 0, .i .i64 0, .i .i64 0, .b false] [(2, 1, .t 22), (3, 1, .t 25)]⟩]
      (.one 13 ⟨none, none, .st 4 (.t 7) (.t 26)⟩ [] []
        []
      .fin))) (.one 9 ⟨some 24, none, .call (.k (.fn n_spec_l20Rd_pick [] [])) [.t 23, .k (.i .i64 2)]⟩ [] [10]
        [⟨some 25, none, .bin .eql (.t 24) (.k (.i .i64 0))⟩]
      (.one 3 ⟨some 18, none, .bsl ty_int [.i .i64 0] 5 [(0, 1, .k (.i .i64 4)), (1, 1, .k (.i .i64 6)), (2, 1, .k (.i .i64 8)), (3, 1, .k (.i .i64 12)), (4, 1, .t 17)]⟩ [] [6, 7, 11]
        [⟨some 21, none, .ia 1 (.t 18) (.t 20)⟩,
        ⟨some 22, none, .ld (.t 21)⟩,
        ⟨some 26, none, .build [.i .i64 0, .i .i64 0, .i .i64 0, .b false] [(2, 1, .t 22), (3, 1, .t 25)]⟩]
      (.one 13 ⟨none, none, .st 4 (.t 7) (.t 26)⟩ [] []
        []
      .fin)))))))))) (.one 12 ⟨some 7, none, .alloc ty_impl_MixedTask [.i .i64 0, .i .i64 0, .i .i64 0, .b false]⟩ [] []
        []
      (.one 1 ⟨some 16, none, .call (.k (.fn n_spec_l20Rd_pick [] [])) [.t 15, .k (.i .i64 10)]⟩ [] [2]
        [⟨some 17, none, .bin .add (.k (.i .i64 3)) (.t 16)⟩]
      (.alt (.one 3 ⟨some 18, none, .bsl ty_int [.i .i64 0] 5 [(0, 1, .k (.i .i64 4)), (1, 1, .k (.i .i64 6)), (2, 1, .k (.i .i64 8)), (3, 1, .k (.i .i64 12)), (4, 1, .t 17)]⟩ [] []
        []
      (.one 5 ⟨some 20, none, .call (.k (.fn n_spec_l20Rd_pick [] [])) [.t 19, .k (.i .i64 5)]⟩ [] [6, 7]
        [⟨some 21, none, .ia 1 (.t 18) (.t 20)⟩,
        ⟨some 22, none, .ld (.t 21)⟩]
      (.one 9 ⟨some 24, none, .call (.k (.fn n_spec_l20Rd_pick [] [])) [.t 23, .k (.i .i64 2)]⟩ [(22, none, 21)] [10, 11]
        [⟨some 25, none, .bin .eql (.t 24) (.k (.i .i64 0))⟩,
        ⟨some 26, none, .build [.i .i64 0, .i .i64 0, .i .i64 0, .b false] [(2, 1, .t 22), (3, 1, .t 25)]⟩]
      (.one 13 ⟨none, none, .st 4 (.t 7) (.t 26)⟩ [] []
        []
      .fin)))) (.one 5 ⟨some 20, none, .call (.k (.fn n_spec_l20Rd_pick [] [])) [.t 19, .k (.i .i64 5)]⟩ [] []
        []
      (.alt (.one 3 ⟨some 18, none, .bsl ty_int [.i .i64 0] 5 [(0, 1, .k (.i .i64 4)), (1, 1, .k (.i .i64 6)), (2, 1, .k (.i .i64 8)), (3, 1, .k (.i .i64 12)), (4, 1, .t 17)]⟩ [] [6, 7]
        [⟨some 21, none, .ia 1 (.t 18) (.t 20)⟩,
        ⟨some 22, none, .ld (.t 21)⟩]
      (.one 9 ⟨some 24, none, .call (.k (.fn n_spec_l20Rd_pick [] [])) [.t 23, .k (.i .i64 2)]⟩ [(22, none, 21)] [10, 11]
        [⟨some 25, none, .bin .eql (.t 24) (.k (.i .i64 0))⟩,
        ⟨some 26, none, .build [.i .i64 0, .i .i64 0, .i .i64 0, .b false] [(2, 1, .t 22), (3, 1, .t 25)]⟩]
      (.one 13 ⟨none, none, .st 4 (.t 7) (.t 26)⟩ [] []
        []
      .fin))) (.one 9 ⟨some 24, none, .call (.k (.fn n_spec_l20Rd_pick [] [])) [.t 23, .k (.i .i64 2)]⟩ [] [10]
        [⟨some 25, none, .bin .eql (.t 24) (.k (.i .i64 0))⟩]
      (.one 3 ⟨some 18, none, .bsl ty_int [.i .i64 0] 5 [(0, 1, .k (.i .i64 4)), (1, 1, .k (.i .i64 6)), (2, 1, .k (.i .i64 8)), (3, 1, .k (.i .i64 12)), (4, 1, .t 17)]⟩ [] [6, 7, 11]
        [⟨some 21, none, .ia 1 (.t 18) (.t 20)⟩,
        ⟨some 22, none, .ld (.t 21)⟩,
        ⟨some 26, none, .build [.i .i64 0, .i .i64 0, .i .i64 0, .b false] [(2, 1, .t 22), (3, 1, .t 25)]⟩]
      (.one 13 ⟨none, none, .st 4 (.t 7) (.t 26)⟩ [] []
        []
      .fin))))))))))
    (.seq (.ops [⟨some 27, none, .mv (.t 0)⟩,
      ⟨some 28, none, .fa 2 (.t 7)⟩,
      ⟨some 29, none, .ld (.t 28)⟩,
      ⟨some 30, none, .mn (.k (.i .i64 3)) (.t 29)⟩,
      ⟨some 31, none, .call (.k (.fn n_spec_l20Rd_pick [] [])) [.t 27, .t 30]⟩,
      ⟨some 32, none, .bin .add (.k (.i .i64 1)) (.t 31)⟩,
      ⟨some 33, none, .fa 0 (.t 7)⟩,
      ⟨none, none, .st 1 (.t 33) (.t 32)⟩])
    (.seq (.ops [⟨some 34, none, .fa 0 (.t 7)⟩,
      ⟨some 35, none, .ld (.t 34)⟩,
      ⟨some 36, none, .fa 1 (.t 7)⟩,
      ⟨none, none, .st 1 (.t 36) (.t 35)⟩])
    (.seq (.seq (.ops [⟨some 37, none, .fa 3 (.t 7)⟩,
      ⟨some 38, none, .ld (.t 37)⟩])
    (.cond (.t 38) (.plan [0, 1, 2, 3, 4] [⟨some 39, none, .fa 2 (.t 7)⟩,
      ⟨some 40, none, .ld (.t 39)⟩,
      ⟨some 41, none, .fa 0 (.t 7)⟩,
      ⟨some 42, none, .ld (.t 41)⟩,
      ⟨some 43, none, .mv (.t 0)⟩]
      (.one 5 ⟨some 44, none, .call (.k (.fn n_spec_l20Rd_pick [] [])) [.t 43, .k (.i .i64 4)]⟩ [(40, none, 39), (42, none, 41)] [6, 7, 8]
        [⟨some 45, none, .bin .add (.t 42) (.t 44)⟩,
        ⟨some 46, none, .mn (.t 40) (.t 45)⟩,
        ⟨some 47, none, .fa 1 (.t 7)⟩]
      (.one 9 ⟨none, none, .st 1 (.t 47) (.t 46)⟩ [] []
        []
      .fin)))
    (.skip)))
    (.ops [⟨some 48, none, .mv (.t 5)⟩,
      ⟨some 49, none, .ldn 4 (.t 7)⟩,
      ⟨some 50, none, .bsl ty_impl_MixedTask [.i .i64 0, .i .i64 0, .i .i64 0, .b false] 1 [(0, 4, .t 49)]⟩,
      ⟨some 51, none, .app ty_impl_MixedTask 4 32 (.t 48) (.t 50)⟩,
      ⟨some 5, none, .mv (.t 51)⟩]))))))
    (.ops [⟨some 13, none, .mv (.t 6)⟩,
      ⟨some 14, none, .bin .sub (.t 13) (.k (.i .i64 1))⟩,
      ⟨some 6, none, .mv (.t 14)⟩]))
def c_spec_l20Mixed : LC := .seq (.ops [⟨some 4, none, .mv (.k (.sn))⟩])
    (.seq (.ops [⟨some 8, none, .bsl ty_impl_MixedTask [.i .i64 0, .i .i64 0, .i .i64 0, .b false] 0 []⟩,
      ⟨some 5, none, .mv (.t 8)⟩])
    (.seq (.seq (.ops [⟨some 9, none, .mv (.t 0)⟩,
      ⟨some 10, none, .call (.k (.fn n_spec_l20Rd_pick [] [])) [.t 9, .k (.i .i64 6)]⟩,
      ⟨some 6, none, .mv (.t 10)⟩])
    (.block 0 (.loop l1_spec_l20Mixed)))
    (.join (.seq (.ops [⟨some 52, none, .mv (.t 0)⟩,
      ⟨some 53, none, .mv (.t 1)⟩,
      ⟨some 54, none, .call (.k (.fn n_spec_l20Rd_odd [] [])) [.t 52, .t 53]⟩])
    (.cond (.t 54) (.seq (.seq (.ops [⟨some 55, none, .mv (.t 0)⟩,
      ⟨some 56, none, .call (.k (.fn n_spec_l20Rd_pick [] [])) [.t 55, .k (.i .i64 3)]⟩,
      ⟨some 57, none, .bin .eql (.t 56) (.k (.i .i64 0))⟩])
    (.cond (.t 57) (.block 2 (.loop l0_spec_l20Mixed))
    (.skip)))
    (.ops [⟨some 65, none, .mv (.t 5)⟩,
      ⟨some 66, none, .build [.i .i64 0, .i .i64 0, .i .i64 0, .b false] [(0, 1, .k (.i .i64 0)), (1, 1, .k (.i .i64 1)), (2, 1, .k (.i .i64 4))]⟩,
      ⟨some 67, none, .build [.i .i64 0, .i .i64 0, .i .i64 0, .b false] [(0, 1, .k (.i .i64 2)), (1, 1, .k (.i .i64 1)), (2, 1, .k (.i .i64 4)), (3, 1, .k (.b true))]⟩,
      ⟨some 68, none, .build [.i .i64 0, .i .i64 0, .i .i64 0, .b false] [(0, 1, .k (.i .i64 1)), (1, 1, .k (.i .i64 5)), (2, 1, .k (.i .i64 4)), (3, 1, .k (.b true))]⟩,
      ⟨some 69, none, .build [.i .i64 0, .i .i64 0, .i .i64 0, .b false] [(0, 1, .k (.i .i64 1)), (1, 1, .k (.i .i64 2)), (2, 1, .k (.i .i64 4))]⟩,
      ⟨some 70, none, .build [.i .i64 0, .i .i64 0, .i .i64 0, .b false] [(0, 1, .k (.i .i64 1)), (1, 1, .k (.i .i64 1)), (2, 1, .k (.i .i64 13))]⟩,
      ⟨some 71, none, .build [.i .i64 0, .i .i64 0, .i .i64 0, .b false] [(0, 1, .k (.i .i64 1)), (1, 1, .k (.i .i64 1)), (2, 1, .k (.i .i64 4))]⟩,
      ⟨some 72, none, .bsl ty_impl_MixedTask [.i .i64 0, .i .i64 0, .i .i64 0, .b false] 6 [(0, 4, .t 66), (4, 4, .t 67), (8, 4, .t 68), (12, 4, .t 69), (16, 4, .t 70), (20, 4, .t 71)]⟩,
      ⟨some 73, none, .mv (.t 0)⟩,
      ⟨some 74, none, .call (.k (.fn n_spec_l20Rd_pick [] [])) [.t 73, .k (.i .i64 6)]⟩,
      ⟨some 75, none, .ia 4 (.t 72) (.t 74)⟩,
      ⟨some 76, none, .ldn 4 (.t 75)⟩,
      ⟨some 77, none, .bsl ty_impl_MixedTask [.i .i64 0, .i .i64 0, .i .i64 0, .b false] 1 [(0, 4, .t 76)]⟩,
      ⟨some 78, none, .app ty_impl_MixedTask 4 32 (.t 65) (.t 77)⟩,
      ⟨some 5, none, .mv (.t 78)⟩]))
    (.skip)))
    (.seq (.ops [⟨some 79, none, .mv (.t 5)⟩,
      ⟨some 4, none, .mv (.t 79)⟩])
    (.ret)))))
theorem k_spec_l20Mixed : chkF Try.prog Try.f44 80 c_spec_l20Mixed [.t 4] = true := by kernel_rfl
theorem call_spec_l20Mixed {args : List AV} {σ : List AB} {K : AV → List AB → Prop} (hn : args.length ≤ 80) (hw : wpC Try.prog σ.length 80 c_spec_l20Mixed (retP σ.length [.t 4] K) ⟨initT 0 args, σ⟩) : CallWp Try.prog n_spec_l20Mixed args σ K := call_fn mixed Try.func44 k_spec_l20Mixed hn hw
def l0_spec_MixedValid : LC := .seq (.seq (.ops [⟨some 5, none, .mv (.t 3)⟩,
      ⟨some 6, none, .mv (.t 0)⟩,
      ⟨some 7, none, .len (.t 6)⟩,
      ⟨some 8, none, .bin .lss (.t 5) (.t 7)⟩])
    (.cond (.t 8) (.skip)
    (.exit 0)))
    (.seq (.block 1 (.seq (.ops [⟨some 11, none, .mv (.t 0)⟩,
      ⟨some 12, none, .mv (.t 3)⟩,
      ⟨some 13, none, .ia 4 (.t 11) (.t 12)⟩,
      ⟨some 14, none, .ldn 4 (.t 13)⟩,
      ⟨some 4, none, .alloc ty_impl_MixedTask [.i .i64 0, .i .i64 0, .i .i64 0, .b false]⟩,
      ⟨none, none, .st 4 (.t 4) (.t 14)⟩])
    (.seq (.ops [⟨some 15, none, .fa 2 (.t 4)⟩,
      ⟨some 16, none, .ld (.t 15)⟩,
      ⟨some 17, none, .call (.k (.fn n_spec_l1In [] [])) [.t 16, .k (.i .i64 1), .k (.i .i64 12)]⟩,
      ⟨some 18, none, .not (.t 17)⟩,
      ⟨some 19, none, .mv (.t 18)⟩,
      ⟨some 20, (some (19, false)), .fa 0 (.t 4)⟩,
      ⟨some 21, (some (19, false)), .ld (.t 20)⟩,
      ⟨some 22, (some (19, false)), .call (.k (.fn n_spec_l1In [] [])) [.t 21, .k (.i .i64 1), .k (.i .i64 8)]⟩,
      ⟨some 23, (some (19, false)), .not (.t 22)⟩,
      ⟨some 24, none, .pick (.t 19) (.k (.b true)) (.t 23)⟩,
      ⟨some 25, none, .mv (.t 24)⟩,
      ⟨some 26, (some (25, false)), .fa 1 (.t 4)⟩,
      ⟨some 27, (some (25, false)), .ld (.t 26)⟩,
      ⟨some 28, (some (25, false)), .fa 0 (.t 4)⟩,
      ⟨some 29, (some (25, false)), .ld (.t 28)⟩,
      ⟨some 30, (some (25, false)), .fa 2 (.t 4)⟩,
      ⟨some 31, (some (25, false)), .ld (.t 30)⟩,
      ⟨some 32, (some (25, false)), .call (.k (.fn n_spec_l1In [] [])) [.t 27, .t 29, .t 31]⟩,
      ⟨some 33, (some (25, false)), .not (.t 32)⟩,
      ⟨some 34, none, .pick (.t 25) (.k (.b true)) (.t 33)⟩,
      ⟨some 35, none, .mv (.t 34)⟩,
      ⟨some 36, (some (35, false)), .fa 3 (.t 4)⟩,
      ⟨some 37, (some (35, false)), .ld (.t 36)⟩,
      ⟨some 38, (some (35, false)), .not (.t 37)⟩,
      ⟨some 39, (some (35, false)), .mv (.t 38)⟩,
      ⟨some 40, (some (39, true)), .fa 1 (.t 4)⟩,
      ⟨some 41, (some (39, true)), .ld (.t 40)⟩,
      ⟨some 42, (some (39, true)), .fa 0 (.t 4)⟩,
      ⟨some 43, (some (39, true)), .ld (.t 42)⟩,
      ⟨some 44, (some (39, true)), .bin .neq (.t 41) (.t 43)⟩,
      ⟨some 45, (some (35, false)), .pick (.t 39) (.t 44) (.k (.b false))⟩,
      ⟨some 46, none, .pick (.t 35) (.k (.b true)) (.t 45)⟩])
    (.cond (.t 46) (.seq (.ops [⟨some 2, none, .mv (.k (.b false))⟩])
    (.ret))
    (.skip)))))
    (.ops [⟨some 9, none, .mv (.t 3)⟩,
      ⟨some 10, none, .bin .add (.t 9) (.k (.i .i64 1))⟩,
      ⟨some 3, none, .mv (.t 10)⟩]))
def c_spec_MixedValid : LC := .seq (.ops [⟨some 2, none, .mv (.k (.b false))⟩])
    (.seq (.seq (.ops [⟨some 3, none, .mv (.k (.i .i64 0))⟩])
    (.block 0 (.loop l0_spec_MixedValid)))
    (.seq (.ops [⟨some 47, none, .mv (.t 0)⟩,
      ⟨some 48, none, .len (.t 47)⟩,
      ⟨some 49, none, .bin .leq (.t 48) (.k (.i .i64 5))⟩,
      ⟨some 2, none, .mv (.t 49)⟩])
    (.ret)))
theorem k_spec_MixedValid : chkF Try.prog Try.f45 50 c_spec_MixedValid [.t 2] = true := by kernel_rfl
theorem call_spec_MixedValid {args : List AV} {σ : List AB} {K : AV → List AB → Prop} (hn : args.length ≤ 50) (hw : wpC Try.prog σ.length 50 c_spec_MixedValid (retP σ.length [.t 2] K) ⟨initT 0 args, σ⟩) : CallWp Try.prog n_spec_MixedValid args σ K := call_fn mixed Try.func45 k_spec_MixedValid hn hw
def l0_spec_l20MixedJobs : LC := .seq (.seq (.ops [⟨some 39, none, .mv (.t 12)⟩,
      ⟨some 40, none, .mv (.t 11)⟩,
      ⟨some 41, none, .len (.t 40)⟩,
      ⟨some 42, none, .bin .lss (.t 39) (.t 41)⟩])
    (.cond (.t 42) (.skip)
    (.exit 2)))
    (.seq (.block 3 (.seq (.ops [⟨some 45, none, .mv (.t 11)⟩,
      ⟨some 46, none, .mv (.t 12)⟩,
      ⟨some 47, none, .ia 4 (.t 45) (.t 46)⟩,
      ⟨some 48, none, .fa 0 (.t 47)⟩,
      ⟨some 49, none, .ld (.t 48)⟩,
      ⟨some 13, none, .mv (.t 49)⟩])
    (.seq (.seq (.ops [⟨some 50, none, .mv (.t 13)⟩,
      ⟨some 51, none, .bin .lss (.t 50) (.k (.i .i64 0))⟩,
      ⟨some 52, none, .mv (.t 51)⟩,
      ⟨some 53, (some (52, false)), .mv (.t 13)⟩,
      ⟨some 54, (some (52, false)), .mv (.t 1)⟩,
      ⟨some 55, (some (52, false)), .len (.t 54)⟩,
      ⟨some 56, (some (52, false)), .bin .geq (.t 53) (.t 55)⟩,
      ⟨some 57, none, .pick (.t 52) (.k (.b true)) (.t 56)⟩,
      ⟨some 58, none, .mv (.t 57)⟩,
      ⟨some 59, (some (58, false)), .mv (.t 11)⟩,
      ⟨some 60, (some (58, false)), .mv (.t 12)⟩,
      ⟨some 61, (some (58, false)), .ia 4 (.t 59) (.t 60)⟩,
      ⟨some 62, (some (58, false)), .fa 3 (.t 61)⟩,
      ⟨some 63, (some (58, false)), .ld (.t 62)⟩,
      ⟨some 64, (some (58, false)), .bin .neq (.t 63) (.k (.i .i64 1))⟩,
      ⟨some 65, none, .pick (.t 58) (.k (.b true)) (.t 64)⟩])
    (.cond (.t 65) (.exit 3)
    (.skip)))
    (.seq (.ops [⟨some 66, none, .mv (.t 11)⟩,
      ⟨some 67, none, .mv (.t 12)⟩,
      ⟨some 68, none, .mv (.t 1)⟩,
      ⟨some 69, none, .mv (.t 13)⟩,
      ⟨some 70, none, .ia 4 (.t 68) (.t 69)⟩,
      ⟨some 71, none, .fa 0 (.t 70)⟩,
      ⟨some 72, none, .ld (.t 71)⟩,
      ⟨some 73, none, .ia 4 (.t 66) (.t 67)⟩,
      ⟨some 74, none, .fa 3 (.t 73)⟩,
      ⟨none, none, .st 1 (.t 74) (.t 72)⟩])
    (.join (.join (.ops [⟨some 75, none, .mv (.t 2)⟩,
      ⟨some 76, none, .not (.t 75)⟩,
      ⟨some 77, none, .mv (.t 76)⟩,
      ⟨some 78, (some (77, true)), .mv (.t 0)⟩,
      ⟨some 79, (some (77, true)), .call (.k (.fn n_spec_l20Rd_pick [] [])) [.t 78, .k (.i .i64 4)]⟩,
      ⟨some 80, (some (77, true)), .bin .eql (.t 79) (.k (.i .i64 0))⟩,
      ⟨some 81, none, .pick (.t 77) (.t 80) (.k (.b false))⟩])
    (.cond (.t 81) (.ops [⟨some 82, none, .mv (.t 11)⟩,
      ⟨some 83, none, .mv (.t 12)⟩,
      ⟨some 84, none, .mv (.t 1)⟩,
      ⟨some 85, none, .mv (.t 13)⟩,
      ⟨some 86, none, .ia 4 (.t 84) (.t 85)⟩,
      ⟨some 87, none, .fa 1 (.t 86)⟩,
      ⟨some 88, none, .ld (.t 87)⟩,
      ⟨some 89, none, .ia 4 (.t 82) (.t 83)⟩,
      ⟨some 90, none, .fa 3 (.t 89)⟩,
      ⟨none, none, .st 1 (.t 90) (.t 88)⟩])
    (.skip)))
    (.seq (.ops [⟨some 91, none, .mv (.t 0)⟩,
      ⟨some 92, none, .call (.k (.fn n_spec_l20Rd_pick [] [])) [.t 91, .k (.i .i64 4)]⟩,
      ⟨some 93, none, .bin .eql (.t 92) (.k (.i .i64 0))⟩])
    (.cond (.t 93) (.ops [⟨some 94, none, .mv (.t 11)⟩,
      ⟨some 95, none, .mv (.t 12)⟩,
      ⟨some 96, none, .mv (.t 0)⟩,
      ⟨some 97, none, .mv (.t 11)⟩,
      ⟨some 98, none, .mv (.t 12)⟩,
      ⟨some 99, none, .ia 4 (.t 97) (.t 98)⟩,
      ⟨some 100, none, .fa 3 (.t 99)⟩,
      ⟨some 101, none, .ld (.t 100)⟩,
      ⟨some 102, none, .call (.k (.fn n_spec_l20Rd_pick [] [])) [.t 96, .t 101]⟩,
      ⟨some 103, none, .bin .add (.k (.i .i64 1)) (.t 102)⟩,
      ⟨some 104, none, .ia 4 (.t 94) (.t 95)⟩,
      ⟨some 105, none, .fa 3 (.t 104)⟩,
      ⟨none, none, .st 1 (.t 105) (.t 103)⟩])
    (.skip))))))))
    (.ops [⟨some 43, none, .mv (.t 12)⟩,
      ⟨some 44, none, .bin .add (.t 43) (.k (.i .i64 1))⟩,
      ⟨some 12, none, .mv (.t 44)⟩]))
def l1_spec_l20MixedJobs : LC := .seq (.seq (.ops [⟨some 15, none, .mv (.t 10)⟩,
      ⟨some 16, none, .mv (.t 1)⟩,
      ⟨some 17, none, .len (.t 16)⟩,
      ⟨some 18, none, .bin .lss (.t 15) (.t 17)⟩])
    (.cond (.t 18) (.skip)
    (.exit 0)))
    (.seq (.block 1 (.plan [0, 1, 2, 3, 4, 5, 6, 7, 8, 9, 10, 11] [⟨some 21, none, .mv (.t 9)⟩,
      ⟨some 22, none, .mv (.t 1)⟩,
      ⟨some 23, none, .mv (.t 10)⟩,
      ⟨some 24, none, .ia 4 (.t 22) (.t 23)⟩,
      ⟨some 25, none, .fa 2 (.t 24)⟩,
      ⟨some 26, none, .ld (.t 25)⟩,
      ⟨some 27, none, .mv (.t 1)⟩,
      ⟨some 28, none, .mv (.t 10)⟩,
      ⟨some 29, none, .ia 4 (.t 27) (.t 28)⟩,
      ⟨some 30, none, .fa 2 (.t 29)⟩,
      ⟨some 31, none, .ld (.t 30)⟩,
      ⟨some 32, none, .build [.i .i64 0, .i .i64 0, .i .i64 0] [(0, 1, .k (.i .i64 1)), (1, 1, .t 26), (2, 1, .t 31)]⟩]
      (.one 12 ⟨some 33, none, .bsl ty_impl_Task [.i .i64 0, .i .i64 0, .i .i64 0] 1 [(0, 3, .t 32)]⟩ [(26, none, 25), (31, none, 30)] []
        []
      (.one 13 ⟨some 34, none, .app ty_impl_Task 3 24 (.t 21) (.t 33)⟩ [(26, none, 25), (31, none, 30)] []
        []
      (.one 14 ⟨some 9, none, .mv (.t 34)⟩ [] []
        []
      .fin)))))
    (.ops [⟨some 19, none, .mv (.t 10)⟩,
      ⟨some 20, none, .bin .add (.t 19) (.k (.i .i64 1))⟩,
      ⟨some 10, none, .mv (.t 20)⟩]))
def c_spec_l20MixedJobs : LC := .seq (.ops [⟨some 8, none, .mv (.k (.sn))⟩])
    (.seq (.ops [⟨some 14, none, .bsl ty_impl_Task [.i .i64 0, .i .i64 0, .i .i64 0] 0 []⟩,
      ⟨some 9, none, .mv (.t 14)⟩])
    (.seq (.seq (.ops [⟨some 10, none, .mv (.k (.i .i64 0))⟩])
    (.block 0 (.loop l1_spec_l20MixedJobs)))
    (.seq (.ops [⟨some 35, none, .mv (.t 0)⟩,
      ⟨some 36, none, .mv (.t 9)⟩,
      ⟨some 37, none, .mv (.t 3)⟩,
      ⟨some 38, none, .call (.k (.fn n_spec_l20Jobs [] [])) [.t 35, .t 36, .t 37]⟩,
      ⟨some 11, none, .mv (.t 38)⟩])
    (.seq (.seq (.ops [⟨some 12, none, .mv (.k (.i .i64 0))⟩])
    (.block 2 (.loop l0_spec_l20MixedJobs)))
    (.seq (.ops [⟨some 106, none, .mv (.t 11)⟩,
      ⟨some 8, none, .mv (.t 106)⟩])
    (.ret))))))
theorem k_spec_l20MixedJobs : chkF Try.prog Try.f46 107 c_spec_l20MixedJobs [.t 8] = true := by kernel_rfl
theorem call_spec_l20MixedJobs {args : List AV} {σ : List AB} {K : AV → List AB → Prop} (hn : args.length ≤ 107) (hw : wpC Try.prog σ.length 107 c_spec_l20MixedJobs (retP σ.length [.t 8] K) ⟨initT 0 args, σ⟩) : CallWp Try.prog n_spec_l20MixedJobs args σ K := call_fn mixed Try.func46 k_spec_l20MixedJobs hn hw
def l0_impl_DeadlineScale : LC := .seq (.ops [⟨some 18, none, .bin .lss (.t 17) (.t 16)⟩])
    (.seq (.cond (.t 18) (.skip)
    (.exit 0))
    (.seq (.block 1 (.seq (.ops [⟨some 19, none, .ia 4 (.t 15) (.t 17)⟩,
      ⟨some 20, none, .ldn 4 (.t 19)⟩,
      ⟨some 8, none, .alloc ty_impl_MixedTask [.i .i64 0, .i .i64 0, .i .i64 0, .b false]⟩,
      ⟨none, none, .st 4 (.t 8) (.t 20)⟩])
    (.seq (.ops [⟨some 21, none, .fa 2 (.t 8)⟩,
      ⟨some 22, none, .ld (.t 21)⟩,
      ⟨some 23, none, .bin .quo (.k (.i .i64 27720)) (.t 22)⟩,
      ⟨some 9, none, .mv (.t 23)⟩])
    (.seq (.ops [⟨some 24, none, .fa 3 (.t 8)⟩,
      ⟨some 25, none, .ld (.t 24)⟩])
    (.cond (.t 25) (.seq (.ops [⟨some 26, none, .mv (.t 5)⟩,
      ⟨some 27, none, .mv (.t 9)⟩,
      ⟨some 28, none, .fa 0 (.t 8)⟩,
      ⟨some 29, none, .ld (.t 28)⟩,
      ⟨some 30, none, .bin .mul (.t 27) (.t 29)⟩,
      ⟨some 31, none, .bin .add (.t 26) (.t 30)⟩,
      ⟨some 5, none, .mv (.t 31)⟩])
    (.ops [⟨some 32, none, .mv (.t 6)⟩,
      ⟨some 33, none, .mv (.t 9)⟩,
      ⟨some 34, none, .fa 1 (.t 8)⟩,
      ⟨some 35, none, .ld (.t 34)⟩,
      ⟨some 36, none, .bin .mul (.t 33) (.t 35)⟩,
      ⟨some 37, none, .bin .add (.t 32) (.t 36)⟩,
      ⟨some 6, none, .mv (.t 37)⟩]))
    (.ops [⟨some 38, none, .mv (.t 4)⟩,
      ⟨some 39, none, .mv (.t 9)⟩,
      ⟨some 40, none, .fa 0 (.t 8)⟩,
      ⟨some 41, none, .ld (.t 40)⟩,
      ⟨some 42, none, .bin .mul (.t 39) (.t 41)⟩,
      ⟨some 43, none, .bin .add (.t 38) (.t 42)⟩,
      ⟨some 4, none, .mv (.t 43)⟩]))))))
    (.ops [⟨some 44, none, .bin .add (.t 17) (.k (.i .i64 1))⟩,
      ⟨some 17, none, .mv (.t 44)⟩])))
def c_impl_DeadlineScale : LC := .seq (.ops [⟨some 2, none, .alloc ty_impl_Fraction [.i .i64 0, .i .i64 0]⟩,
      ⟨some 3, none, .mv (.k (.b false))⟩])
    (.seq (.seq (.ops [⟨some 11, none, .mv (.t 0)⟩,
      ⟨some 12, none, .call (.k (.fn n_impl_MixedValid [] [])) [.t 11]⟩,
      ⟨some 13, none, .not (.t 12)⟩])
    (.cond (.t 13) (.seq (.ops [⟨some 14, none, .build [.i .i64 0, .i .i64 0] []⟩,
      ⟨none, none, .st 2 (.t 2) (.t 14)⟩,
      ⟨some 3, none, .mv (.k (.b false))⟩])
    (.ret))
    (.skip)))
    (.seq (.ops [⟨some 4, none, .mv (.k (.i .i64 0))⟩,
      ⟨some 5, none, .mv (.k (.i .i64 0))⟩,
      ⟨some 6, none, .mv (.k (.i .i64 0))⟩])
    (.seq (.seq (.ops [⟨some 15, none, .mv (.t 0)⟩,
      ⟨some 16, none, .len (.t 15)⟩,
      ⟨some 17, none, .mv (.k (.i .i64 0))⟩])
    (.block 0 (.loop l0_impl_DeadlineScale)))
    (.seq (.ops [⟨some 45, none, .mv (.t 4)⟩,
      ⟨some 46, none, .bin .sub (.k (.i .i64 27720)) (.t 45)⟩,
      ⟨some 10, none, .mv (.t 46)⟩])
    (.seq (.block 2 (.seq (.ops [⟨some 48, none, .mv (.t 4)⟩,
      ⟨some 49, none, .mv (.t 6)⟩,
      ⟨some 50, none, .bin .add (.t 48) (.t 49)⟩,
      ⟨some 51, none, .bin .leq (.t 50) (.k (.i .i64 27720))⟩,
      ⟨some 47, none, .mv (.t 51)⟩])
    (.cond (.t 47) (.seq (.ops [⟨some 52, none, .build [.i .i64 0, .i .i64 0] [(0, 1, .k (.i .i64 1)), (1, 1, .k (.i .i64 1))]⟩,
      ⟨none, none, .st 2 (.t 2) (.t 52)⟩,
      ⟨some 3, none, .mv (.k (.b true))⟩])
    (.ret))
    (.seq (.ops [⟨some 54, none, .mv (.t 10)⟩,
      ⟨some 55, none, .bin .gtr (.t 54) (.k (.i .i64 0))⟩,
      ⟨some 56, none, .mv (.t 55)⟩,
      ⟨some 57, (some (56, true)), .mv (.t 5)⟩,
      ⟨some 58, (some (56, true)), .bin .gtr (.t 57) (.k (.i .i64 0))⟩,
      ⟨some 59, none, .pick (.t 56) (.t 58) (.k (.b false))⟩,
      ⟨some 60, none, .mv (.t 59)⟩,
      ⟨some 61, (some (60, true)), .mv (.t 5)⟩,
      ⟨some 62, (some (60, true)), .mv (.t 10)⟩,
      ⟨some 63, (some (60, true)), .bin .leq (.t 61) (.t 62)⟩,
      ⟨some 64, none, .pick (.t 60) (.t 63) (.k (.b false))⟩,
      ⟨some 65, none, .mv (.t 64)⟩,
      ⟨some 66, (some (65, true)), .mv (.t 5)⟩,
      ⟨some 67, (some (65, true)), .mv (.t 4)⟩,
      ⟨some 68, (some (65, true)), .bin .mul (.t 66) (.t 67)⟩,
      ⟨some 69, (some (65, true)), .mv (.t 6)⟩,
      ⟨some 70, (some (65, true)), .mv (.t 10)⟩,
      ⟨some 71, (some (65, true)), .bin .mul (.t 69) (.t 70)⟩,
      ⟨some 72, (some (65, true)), .bin .add (.t 68) (.t 71)⟩,
      ⟨some 73, (some (65, true)), .mv (.t 10)⟩,
      ⟨some 74, (some (65, true)), .bin .mul (.k (.i .i64 27720)) (.t 73)⟩,
      ⟨some 75, (some (65, true)), .bin .leq (.t 72) (.t 74)⟩,
      ⟨some 76, none, .pick (.t 65) (.t 75) (.k (.b false))⟩,
      ⟨some 53, none, .mv (.t 76)⟩])
    (.cond (.t 53) (.seq (.ops [⟨some 77, none, .mv (.t 5)⟩,
      ⟨some 78, none, .mv (.t 10)⟩,
      ⟨some 79, none, .call (.k (.fn n_impl_reduced [] [])) [.t 77, .t 78]⟩,
      ⟨none, none, .st 2 (.t 2) (.t 79)⟩,
      ⟨some 3, none, .mv (.k (.b true))⟩])
    (.ret))
    (.skip))))))
    (.seq (.ops [⟨some 80, none, .build [.i .i64 0, .i .i64 0] []⟩,
      ⟨none, none, .st 2 (.t 2) (.t 80)⟩,
      ⟨some 3, none, .mv (.k (.b false))⟩])
    (.ret)))))))
theorem k_impl_DeadlineScale : chkF Try.prog Try.f47 81 c_impl_DeadlineScale [.c 2 (some 2), .t 3] = true := by kernel_rfl
theorem call_impl_DeadlineScale {args : List AV} {σ : List AB} {K : AV → List AB → Prop} (hn : args.length ≤ 81) (hw : wpC Try.prog σ.length 81 c_impl_DeadlineScale (retP σ.length [.c 2 (some 2), .t 3] K) ⟨initT 0 args, σ⟩) : CallWp Try.prog n_impl_DeadlineScale args σ K := call_fn mixed Try.func47 k_impl_DeadlineScale hn hw
def c_impl_MixedLegal : LC := .seq (.ops [⟨some 2, none, .box ty_sl_impl_MixedTask (.t 0)⟩,
      ⟨some 4, none, .mv (.k (.b false))⟩])
    (.seq (.ops [⟨some 5, none, .ld (.t 2)⟩,
      ⟨some 6, none, .call (.k (.fn n_impl_MixedValid [] [])) [.t 5]⟩,
      ⟨some 7, none, .mv (.t 6)⟩,
      ⟨some 8, (some (7, true)), .mv (.t 1)⟩,
      ⟨some 9, (some (7, true)), .ld (.t 2)⟩,
      ⟨some 10, (some (7, true)), .len (.t 9)⟩,
      ⟨some 11, (some (7, true)), .mkf n_impl_MixedLegal_1 [] [.t 2]⟩,
      ⟨some 12, (some (7, true)), .call (.k (.fn n_impl_ordered [] [])) [.t 8, .t 10, .t 11]⟩,
      ⟨some 13, none, .pick (.t 7) (.t 12) (.k (.b false))⟩,
      ⟨some 14, none, .mv (.t 13)⟩,
      ⟨some 15, (some (14, true)), .mv (.t 1)⟩,
      ⟨some 16, (some (14, true)), .mkf n_impl_MixedLegal_2 [] [.t 2]⟩,
      ⟨some 17, (some (14, true)), .call (.k (.fn n_impl_spaced [] [])) [.t 15, .k (.fn n_impl_release [] []), .t 16]⟩,
      ⟨some 18, none, .pick (.t 14) (.t 17) (.k (.b false))⟩,
      ⟨some 19, none, .mv (.t 18)⟩,
      ⟨some 20, (some (19, true)), .mv (.t 1)⟩,
      ⟨some 21, (some (19, true)), .mkf n_impl_MixedLegal_3 [] [.t 2]⟩,
      ⟨some 22, (some (19, true)), .call (.k (.fn n_slices_ContainsFunc_impl_Job [] [])) [.t 20, .t 21]⟩,
      ⟨some 23, (some (19, true)), .not (.t 22)⟩,
      ⟨some 24, none, .pick (.t 19) (.t 23) (.k (.b false))⟩,
      ⟨some 4, none, .mv (.t 24)⟩])
    (.ret))
theorem k_impl_MixedLegal : chkF Try.prog Try.f48 25 c_impl_MixedLegal [.t 4] = true := by kernel_rfl
theorem call_impl_MixedLegal {args : List AV} {σ : List AB} {K : AV → List AB → Prop} (hn : args.length ≤ 25) (hw : wpC Try.prog σ.length 25 c_impl_MixedLegal (retP σ.length [.t 4] K) ⟨initT 0 args, σ⟩) : CallWp Try.prog n_impl_MixedLegal args σ K := call_fn mixed Try.func48 k_impl_MixedLegal hn hw
def l0_impl_simulate : LC := .seq (.seq (.ops [⟨some 15, none, .mv (.t 5)⟩,
      ⟨some 16, none, .nilc (.t 15)⟩,
      ⟨some 17, none, .fa 2 (.t 16)⟩,
      ⟨some 18, none, .ld (.t 17)⟩,
      ⟨some 19, none, .bin .lss (.t 18) (.k (.i .i64 120))⟩])
    (.cond (.t 19) (.skip)
    (.exit 0)))
    (.seq (.block 1 (.seq (.ops [⟨some 27, none, .mv (.t 1)⟩,
      ⟨some 28, none, .mv (.t 5)⟩,
      ⟨some 29, none, .call (.t 27) [.t 28]⟩,
      ⟨some 7, none, .mv (.t 29)⟩])
    (.seq (.draw 7 [⟨some 30, none, .fa 0 (.t 6)⟩,
      ⟨some 31, none, .ld (.t 30)⟩,
      ⟨some 32, none, .mv (.t 5)⟩,
      ⟨some 33, none, .nilc (.t 32)⟩,
      ⟨some 34, none, .fa 2 (.t 33)⟩,
      ⟨some 35, none, .ld (.t 34)⟩,
      ⟨some 36, none, .mv (.t 7)⟩,
      ⟨some 37, none, .ia 1 (.t 31) (.t 35)⟩,
      ⟨none, none, .st 1 (.t 37) (.t 36)⟩])
    (.seq (.seq (.ops [⟨some 38, none, .mv (.t 7)⟩,
      ⟨some 39, none, .bin .lss (.t 38) (.k (.i .i64 0))⟩])
    (.cond (.t 39) (.exit 1)
    (.skip)))
    (.seq (.ops [⟨some 40, none, .mv (.t 5)⟩,
      ⟨some 41, none, .nilc (.t 40)⟩,
      ⟨some 42, none, .fa 1 (.t 41)⟩,
      ⟨some 43, none, .ld (.t 42)⟩,
      ⟨some 44, none, .mv (.t 7)⟩,
      ⟨some 45, none, .ia 1 (.t 43) (.t 44)⟩,
      ⟨some 46, none, .ld (.t 45)⟩,
      ⟨some 47, none, .bin .add (.t 46) (.k (.i .i64 1))⟩,
      ⟨some 48, none, .ia 1 (.t 43) (.t 44)⟩,
      ⟨none, none, .st 1 (.t 48) (.t 47)⟩])
    (.seq (.draw 13 [⟨some 49, none, .mv (.t 5)⟩,
      ⟨some 50, none, .nilc (.t 49)⟩,
      ⟨some 51, none, .fa 1 (.t 50)⟩,
      ⟨some 52, none, .ld (.t 51)⟩,
      ⟨some 53, none, .mv (.t 7)⟩,
      ⟨some 54, none, .ia 1 (.t 52) (.t 53)⟩,
      ⟨some 55, none, .ld (.t 54)⟩,
      ⟨some 56, none, .mv (.t 0)⟩,
      ⟨some 57, none, .mv (.t 7)⟩,
      ⟨some 58, none, .ia 4 (.t 56) (.t 57)⟩,
      ⟨some 59, none, .fa 3 (.t 58)⟩,
      ⟨some 60, none, .ld (.t 59)⟩,
      ⟨some 61, none, .bin .eql (.t 55) (.t 60)⟩])
    (.cond (.t 61) (.draw 8 [⟨some 62, none, .fa 1 (.t 6)⟩,
      ⟨some 63, none, .ld (.t 62)⟩,
      ⟨some 64, none, .mv (.t 7)⟩,
      ⟨some 65, none, .mv (.t 5)⟩,
      ⟨some 66, none, .nilc (.t 65)⟩,
      ⟨some 67, none, .fa 2 (.t 66)⟩,
      ⟨some 68, none, .ld (.t 67)⟩,
      ⟨some 69, none, .bin .add (.t 68) (.k (.i .i64 1))⟩,
      ⟨some 70, none, .ia 1 (.t 63) (.t 64)⟩,
      ⟨none, none, .st 1 (.t 70) (.t 69)⟩])
    (.skip))))))))
    (.ops [⟨some 20, none, .mv (.t 5)⟩,
      ⟨some 21, none, .nilc (.t 20)⟩,
      ⟨some 22, none, .fa 2 (.t 21)⟩,
      ⟨some 23, none, .ld (.t 22)⟩,
      ⟨some 24, none, .bin .add (.t 23) (.k (.i .i64 1))⟩,
      ⟨some 25, none, .nilc (.t 20)⟩,
      ⟨some 26, none, .fa 2 (.t 25)⟩,
      ⟨none, none, .st 1 (.t 26) (.t 24)⟩]))
def c_impl_simulate : LC := .seq (.ops [⟨some 4, none, .alloc ty_impl_Schedule [.sn, .sn]⟩])
    (.seq (.ops [⟨some 8, none, .mv (.t 0)⟩,
      ⟨some 9, none, .call (.k (.fn n_impl_newMachine [] [])) [.t 8]⟩,
      ⟨some 5, none, .mv (.t 9)⟩])
    (.seq (.ops [⟨some 10, none, .call (.k (.fn n_impl_none [] [])) [.k (.i .i64 120)]⟩,
      ⟨some 11, none, .mv (.t 0)⟩,
      ⟨some 12, none, .len (.t 11)⟩,
      ⟨some 13, none, .call (.k (.fn n_impl_none [] [])) [.t 12]⟩,
      ⟨some 14, none, .build [.sn, .sn] [(0, 1, .t 10), (1, 1, .t 13)]⟩,
      ⟨some 6, none, .alloc ty_impl_Schedule [.sn, .sn]⟩,
      ⟨none, none, .st 2 (.t 6) (.t 14)⟩])
    (.seq (.block 0 (.loop l0_impl_simulate))
    (.seq (.ops [⟨some 71, none, .ldn 2 (.t 6)⟩,
      ⟨none, none, .st 2 (.t 4) (.t 71)⟩])
    (.ret)))))
theorem k_impl_simulate : chkF Try.prog Try.f49 72 c_impl_simulate [.c 4 (some 2)] = true := by kernel_rfl
theorem callC_impl_simulate {args : List AV} {σ : List AB} {K : AV → List AB → Prop} (hn : args.length ≤ 72) (hw : Closed σ → args.all (below1 σ.length) = true → wpC Try.prog σ.length 72 c_impl_simulate (retP σ.length [.c 4 (some 2)] K) ⟨initT 0 args, σ⟩) : CallWp Try.prog n_impl_simulate args σ K := call_fnC mixed Try.func49 k_impl_simulate hn hw
def c_impl_mixed_pick : LC := .seq (.ops [⟨some 2, none, .box ty_ptr_impl_mixed (.t 0)⟩,
      ⟨some 3, none, .box ty_ptr_impl_machine (.t 1)⟩,
      ⟨some 4, none, .mv (.k (.i .i64 0))⟩])
    (.seq (.ops [⟨some 9, none, .mkf n_impl_mixed_pick_1 [] [.t 2, .t 3]⟩,
      ⟨some 5, none, .alloc ty_func_int_bool [.fnil]⟩,
      ⟨none, none, .st 1 (.t 5) (.t 9)⟩])
    (.join (.seq (.ops [⟨some 10, none, .ld (.t 2)⟩,
      ⟨some 11, none, .nilc (.t 10)⟩,
      ⟨some 12, none, .fa 3 (.t 11)⟩,
      ⟨some 13, none, .ld (.t 12)⟩,
      ⟨some 14, none, .mv (.t 13)⟩,
      ⟨some 15, (some (14, true)), .ld (.t 3)⟩,
      ⟨some 16, (some (14, true)), .ld (.t 3)⟩,
      ⟨some 17, (some (14, true)), .mkf n_impl_machine_deadline [.t 16] []⟩,
      ⟨some 18, (some (14, true)), .ld (.t 5)⟩,
      ⟨some 19, (some (14, true)), .call (.k (.fn n_impl_machine_best [] [])) [.t 15, .t 17, .t 18]⟩,
      ⟨some 20, (some (14, true)), .bin .lss (.t 19) (.k (.i .i64 0))⟩,
      ⟨some 21, none, .pick (.t 14) (.t 20) (.k (.b false))⟩])
    (.cond (.t 21) (.plan [0, 1, 2, 3, 4, 5, 6, 7] [⟨some 22, none, .ld (.t 2)⟩,
      ⟨some 23, none, .ld (.t 2)⟩,
      ⟨some 24, none, .ld (.t 3)⟩,
      ⟨some 25, none, .nilc (.t 24)⟩,
      ⟨some 26, none, .fa 2 (.t 25)⟩,
      ⟨some 27, none, .ld (.t 26)⟩,
      ⟨some 28, none, .nilc (.t 22)⟩,
      ⟨some 29, none, .fa 3 (.t 28)⟩]
      (.one 8 ⟨none, none, .st 1 (.t 29) (.k (.b false))⟩ [(23, none, 2), (24, none, 3)] [9, 10]
        [⟨some 30, none, .nilc (.t 23)⟩,
        ⟨some 31, none, .fa 4 (.t 30)⟩]
      (.one 11 ⟨none, none, .st 1 (.t 31) (.t 27)⟩ [] []
        []
      .fin)))
    (.skip)))
    (.seq (.seq (.ops [⟨some 32, none, .ld (.t 2)⟩,
      ⟨some 33, none, .nilc (.t 32)⟩,
      ⟨some 34, none, .fa 3 (.t 33)⟩,
      ⟨some 35, none, .ld (.t 34)⟩])
    (.cond (.t 35) (.seq (.ops [⟨some 36, none, .ld (.t 3)⟩,
      ⟨some 37, none, .ld (.t 3)⟩,
      ⟨some 38, none, .mkf n_impl_machine_deadline [.t 37] []⟩,
      ⟨some 39, none, .ld (.t 5)⟩,
      ⟨some 40, none, .call (.k (.fn n_impl_machine_best [] [])) [.t 36, .t 38, .t 39]⟩,
      ⟨some 6, none, .mv (.t 40)⟩])
    (.seq (.ops [⟨some 41, none, .mv (.t 6)⟩,
      ⟨some 4, none, .mv (.t 41)⟩])
    (.ret)))
    (.skip)))
    (.seq (.ops [⟨some 42, none, .mkf n_impl_mixed_pick_2 [] [.t 3, .t 5, .t 2]⟩,
      ⟨some 7, none, .mv (.t 42)⟩])
    (.seq (.ops [⟨some 43, none, .ld (.t 3)⟩,
      ⟨some 44, none, .mv (.t 7)⟩,
      ⟨some 45, none, .mkf n_impl_mixed_pick_3 [] [.t 5, .t 3, .t 2]⟩,
      ⟨some 46, none, .call (.k (.fn n_impl_machine_best [] [])) [.t 43, .t 44, .t 45]⟩,
      ⟨some 8, none, .mv (.t 46)⟩])
    (.join (.seq (.draw 52 [⟨some 47, none, .mv (.t 8)⟩,
      ⟨some 48, none, .bin .geq (.t 47) (.k (.i .i64 0))⟩,
      ⟨some 49, none, .mv (.t 48)⟩,
      ⟨some 50, (some (49, true)), .ld (.t 5)⟩,
      ⟨some 51, (some (49, true)), .mv (.t 8)⟩,
      ⟨some 52, (some (49, true)), .call (.t 50) [.t 51]⟩,
      ⟨some 53, none, .pick (.t 49) (.t 52) (.k (.b false))⟩,
      ⟨some 54, none, .mv (.t 53)⟩,
      ⟨some 55, (some (54, true)), .ld (.t 3)⟩,
      ⟨some 56, (some (54, true)), .nilc (.t 55)⟩,
      ⟨some 57, (some (54, true)), .fa 1 (.t 56)⟩,
      ⟨some 58, (some (54, true)), .ld (.t 57)⟩,
      ⟨some 59, (some (54, true)), .mv (.t 8)⟩,
      ⟨some 60, (some (54, true)), .ia 1 (.t 58) (.t 59)⟩,
      ⟨some 61, (some (54, true)), .ld (.t 60)⟩,
      ⟨some 62, (some (54, true)), .bin .add (.t 61) (.k (.i .i64 1))⟩,
      ⟨some 63, (some (54, true)), .ld (.t 2)⟩,
      ⟨some 64, (some (54, true)), .nilc (.t 63)⟩,
      ⟨some 65, (some (54, true)), .fa 0 (.t 64)⟩,
      ⟨some 66, (some (54, true)), .ld (.t 65)⟩,
      ⟨some 67, (some (54, true)), .ld (.t 3)⟩,
      ⟨some 68, (some (54, true)), .nilc (.t 67)⟩,
      ⟨some 69, (some (54, true)), .fa 0 (.t 68)⟩,
      ⟨some 70, (some (54, true)), .ld (.t 69)⟩,
      ⟨some 71, (some (54, true)), .mv (.t 8)⟩,
      ⟨some 72, (some (54, true)), .ia 4 (.t 70) (.t 71)⟩,
      ⟨some 73, (some (54, true)), .fa 0 (.t 72)⟩,
      ⟨some 74, (some (54, true)), .ld (.t 73)⟩,
      ⟨some 75, (some (54, true)), .ia 4 (.t 66) (.t 74)⟩,
      ⟨some 76, (some (54, true)), .fa 0 (.t 75)⟩,
      ⟨some 77, (some (54, true)), .ld (.t 76)⟩,
      ⟨some 78, (some (54, true)), .bin .eql (.t 62) (.t 77)⟩,
      ⟨some 79, none, .pick (.t 54) (.t 78) (.k (.b false))⟩,
      ⟨some 80, none, .mv (.t 79)⟩,
      ⟨some 81, (some (80, true)), .ld (.t 3)⟩,
      ⟨some 82, (some (80, true)), .nilc (.t 81)⟩,
      ⟨some 83, (some (80, true)), .fa 0 (.t 82)⟩,
      ⟨some 84, (some (80, true)), .ld (.t 83)⟩,
      ⟨some 85, (some (80, true)), .mv (.t 8)⟩,
      ⟨some 86, (some (80, true)), .ia 4 (.t 84) (.t 85)⟩,
      ⟨some 87, (some (80, true)), .fa 3 (.t 86)⟩,
      ⟨some 88, (some (80, true)), .ld (.t 87)⟩,
      ⟨some 89, (some (80, true)), .ld (.t 3)⟩,
      ⟨some 90, (some (80, true)), .nilc (.t 89)⟩,
      ⟨some 91, (some (80, true)), .fa 1 (.t 90)⟩,
      ⟨some 92, (some (80, true)), .ld (.t 91)⟩,
      ⟨some 93, (some (80, true)), .mv (.t 8)⟩,
      ⟨some 94, (some (80, true)), .ia 1 (.t 92) (.t 93)⟩,
      ⟨some 95, (some (80, true)), .ld (.t 94)⟩,
      ⟨some 96, (some (80, true)), .bin .add (.t 95) (.k (.i .i64 1))⟩,
      ⟨some 97, (some (80, true)), .bin .gtr (.t 88) (.t 96)⟩,
      ⟨some 98, none, .pick (.t 80) (.t 97) (.k (.b false))⟩])
    (.cond (.t 98) (.seq (.ops [⟨some 99, none, .ld (.t 2)⟩,
      ⟨some 100, none, .nilc (.t 99)⟩,
      ⟨some 101, none, .fa 3 (.t 100)⟩,
      ⟨none, none, .st 1 (.t 101) (.k (.b true))⟩])
    (.seq (.ops [⟨some 102, none, .ld (.t 2)⟩,
      ⟨some 103, none, .nilc (.t 102)⟩,
      ⟨some 104, none, .fa 5 (.t 103)⟩,
      ⟨some 105, none, .ld (.t 104)⟩,
      ⟨some 106, none, .bin .lss (.t 105) (.k (.i .i64 0))⟩])
    (.cond (.t 106) (.plan [0, 1, 2, 3, 4, 5, 6, 7] [⟨some 107, none, .ld (.t 2)⟩,
      ⟨some 108, none, .ld (.t 3)⟩,
      ⟨some 109, none, .nilc (.t 108)⟩,
      ⟨some 110, none, .fa 2 (.t 109)⟩,
      ⟨some 111, none, .ld (.t 110)⟩,
      ⟨some 112, none, .bin .add (.t 111) (.k (.i .i64 1))⟩,
      ⟨some 113, none, .nilc (.t 107)⟩,
      ⟨some 114, none, .fa 5 (.t 113)⟩]
      (.one 8 ⟨none, none, .st 1 (.t 114) (.t 112)⟩ [] []
        []
      .fin))
    (.skip))))
    (.skip)))
    (.seq (.ops [⟨some 115, none, .mv (.t 8)⟩,
      ⟨some 4, none, .mv (.t 115)⟩])
    (.ret))))))))
theorem k_impl_mixed_pick : chkF Try.prog Try.f50 116 c_impl_mixed_pick [.t 4] = true := by kernel_rfl
theorem callC_impl_mixed_pick {args : List AV} {σ : List AB} {K : AV → List AB → Prop} (hn : args.length ≤ 116) (hw : Closed σ → args.all (below1 σ.length) = true → wpC Try.prog σ.length 116 c_impl_mixed_pick (retP σ.length [.t 4] K) ⟨initT 0 args, σ⟩) : CallWp Try.prog n_impl_mixed_pick args σ K := call_fnC mixed Try.func50 k_impl_mixed_pick hn hw
end Go.Proofs.Ytmphblbpofnpaaa
