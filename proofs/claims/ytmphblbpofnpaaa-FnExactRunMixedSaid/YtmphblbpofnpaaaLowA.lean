import Derived.Test.YtmphblbpofnpaaaProg
import Derived.Test.YtmphblbpofnpaaaAbsY
import Derived.KernelRfl
namespace Go.Proofs.Ytmphblbpofnpaaa
open Go.Abs
set_option maxRecDepth 100000
theorem mixed : Try.prog.follows .mixedOrders = true := by kernel_rfl
abbrev n_laws_FnExactRunMixed : Nat := 7
abbrev n_impl_RunMixed : Nat := 13
abbrev n_spec_RunMixed : Nat := 15
abbrev n_laws_szMixedTaskS : Nat := 22
abbrev n_laws_szJobS : Nat := 23
abbrev n_laws_toMixedTaskS : Nat := 24
abbrev n_laws_toJobS : Nat := 25
abbrev n_laws_eqMixedRun : Nat := 26
abbrev n_laws_eqMixedTaskS : Nat := 27
abbrev n_laws_eqJobS : Nat := 28
abbrev n_laws_markMixedTaskS : Nat := 29
abbrev n_laws_markJobS : Nat := 30
abbrev n_laws_markMixedRun : Nat := 31
abbrev n_laws_heldMixedRun : Nat := 32
abbrev n_spec_MixedValid : Nat := 45
abbrev n_impl_DeadlineScale : Nat := 47
abbrev n_impl_MixedLegal : Nat := 48
abbrev n_impl_simulate : Nat := 49
abbrev n_impl_mixed_pick : Nat := 50
abbrev n_spec_DeadlineScale : Nat := 51
abbrev n_spec_MixedLegal : Nat := 52
abbrev n_spec_l15Best : Nat := 53
abbrev n_laws_toMixedTask : Nat := 58
abbrev n_laws_toJob : Nat := 59
abbrev n_laws_eqIntS : Nat := 60
abbrev n_laws_eqMixedTask : Nat := 61
abbrev n_laws_eqJob : Nat := 62
abbrev n_laws_markIntS : Nat := 63
abbrev n_laws_heldIntS : Nat := 64
abbrev n_spec_SetValid : Nat := 67
abbrev n_impl_newMachine : Nat := 70
abbrev n_impl_none : Nat := 71
abbrev n_impl_machine_ready : Nat := 72
abbrev n_spec_JobsLegal : Nat := 77
abbrev n_spec_l1In : Nat := 78
abbrev n_impl_MixedValid : Nat := 85
abbrev n_impl_reduced : Nat := 86
abbrev n_impl_ordered : Nat := 87
abbrev n_impl_MixedLegal_1 : Nat := 88
abbrev n_impl_spaced : Nat := 89
abbrev n_impl_release : Nat := 90
abbrev n_impl_MixedLegal_2 : Nat := 91
abbrev n_slices_ContainsFunc_impl_Job : Nat := 92
abbrev n_impl_MixedLegal_3 : Nat := 93
abbrev n_impl_mixed_pick_1 : Nat := 94
abbrev n_impl_mixed_vital : Nat := 95
abbrev n_impl_machine_best : Nat := 96
abbrev n_impl_machine_deadline : Nat := 97
abbrev n_impl_mixed_pick_2 : Nat := 98
abbrev n_impl_mixed_pick_3 : Nat := 99
abbrev n_spec_l15Sums : Nat := 100
abbrev n_spec_l1Gcd : Nat := 101
abbrev n_spec_l15Key : Nat := 102
abbrev n_impl_in : Nat := 103
abbrev n_spec_TaskValid : Nat := 110
abbrev n_slices_Repeat_int : Nat := 111
abbrev n_slices_ContainsFunc_impl_MixedTask : Nat := 119
abbrev n_impl_MixedValid_1 : Nat := 120
abbrev n_impl_gcd : Nat := 121
abbrev n_slices_IndexFunc_impl_Job : Nat := 122
abbrev n_math_bits_Mul : Nat := 123
abbrev n_slices_IndexFunc_impl_MixedTask : Nat := 127
abbrev n_math_bits_Mul32 : Nat := 128
abbrev n_math_bits_Mul64 : Nat := 129
abbrev ty_int : Nat := 3
abbrev ty_sl_impl_MixedTask : Nat := 23
abbrev ty_impl_MixedRun : Nat := 29
abbrev ty_impl_MixedTask : Nat := 34
abbrev ty_impl_Job : Nat := 36
abbrev ty_impl_Schedule : Nat := 40
abbrev ty_impl_Task : Nat := 43
abbrev ty_impl_Fraction : Nat := 78
abbrev ty_ptr_impl_mixed : Nat := 82
abbrev ty_impl_mixed : Nat := 84
abbrev ty_laws_MixedTask : Nat := 92
abbrev ty_laws_Job : Nat := 94
abbrev ty_func_int_bool : Nat := 101
abbrev ty_ptr_impl_machine : Nat := 102
abbrev ty_impl_machine : Nat := 106
abbrev ty_spec_l20Rd : Nat := 115
def c_laws_FnExactRunMixed : LC := .seq (.ops [⟨some 4, none, .mv (.k (.b false))⟩])
    (.seq (.ops [⟨some 5, none, .mv (.k (.i .i64 1048576))⟩])
    (.seq (.ops [⟨some 14, none, .mv (.t 0)⟩,
      ⟨some 15, none, .mv (.t 5)⟩,
      ⟨some 16, none, .call (.k (.fn n_laws_szMixedTaskS [] [])) [.t 14, .t 15]⟩,
      ⟨some 5, none, .mv (.t 16)⟩])
    (.seq (.seq (.ops [⟨some 17, none, .mv (.t 5)⟩,
      ⟨some 18, none, .bin .lss (.t 17) (.k (.i .i64 0))⟩])
    (.cond (.t 18) (.seq (.ops [⟨some 4, none, .mv (.k (.b true))⟩])
    (.ret))
    (.skip)))
    (.seq (.ops [⟨some 19, none, .mv (.t 1)⟩,
      ⟨some 20, none, .mv (.t 5)⟩,
      ⟨some 21, none, .call (.k (.fn n_laws_szJobS [] [])) [.t 19, .t 20]⟩,
      ⟨some 5, none, .mv (.t 21)⟩])
    (.seq (.seq (.ops [⟨some 22, none, .mv (.t 5)⟩,
      ⟨some 23, none, .bin .lss (.t 22) (.k (.i .i64 0))⟩])
    (.cond (.t 23) (.seq (.ops [⟨some 4, none, .mv (.k (.b true))⟩])
    (.ret))
    (.skip)))
    (.seq (.ops [⟨some 24, none, .mv (.t 0)⟩,
      ⟨some 25, none, .call (.k (.fn n_laws_toMixedTaskS [] [])) [.t 24]⟩,
      ⟨some 26, none, .mv (.t 1)⟩,
      ⟨some 27, none, .call (.k (.fn n_laws_toJobS [] [])) [.t 26]⟩,
      ⟨some 28, none, .call (.k (.fn n_spec_RunMixed [] [])) [.t 25, .t 27]⟩,
      ⟨some 6, none, .alloc ty_impl_MixedRun [.sn, .sn, .i .i64 0]⟩,
      ⟨none, none, .st 3 (.t 6) (.t 28)⟩])
    (.seq (.ops [⟨some 29, none, .mv (.t 0)⟩,
      ⟨some 30, none, .call (.k (.fn n_laws_toMixedTaskS [] [])) [.t 29]⟩,
      ⟨some 7, none, .mv (.t 30)⟩])
    (.seq (.ops [⟨some 31, none, .mv (.t 1)⟩,
      ⟨some 32, none, .call (.k (.fn n_laws_toJobS [] [])) [.t 31]⟩,
      ⟨some 8, none, .mv (.t 32)⟩])
    (.seq (.ops [⟨some 33, none, .mv (.t 7)⟩,
      ⟨some 34, none, .mv (.t 8)⟩,
      ⟨some 35, none, .call (.k (.fn n_impl_RunMixed [] [])) [.t 33, .t 34]⟩,
      ⟨some 9, none, .alloc ty_impl_MixedRun [.sn, .sn, .i .i64 0]⟩,
      ⟨none, none, .st 3 (.t 9) (.t 35)⟩])
    (.seq (.seq (.ops [⟨some 36, none, .ldn 3 (.t 9)⟩,
      ⟨some 37, none, .ldn 3 (.t 6)⟩,
      ⟨some 38, none, .call (.k (.fn n_laws_eqMixedRun [] [])) [.t 36, .t 37]⟩,
      ⟨some 39, none, .not (.t 38)⟩])
    (.cond (.t 39) (.seq (.ops [⟨some 4, none, .mv (.k (.b false))⟩])
    (.ret))
    (.skip)))
    (.seq (.seq (.ops [⟨some 40, none, .mv (.t 7)⟩,
      ⟨some 41, none, .mv (.t 0)⟩,
      ⟨some 42, none, .call (.k (.fn n_laws_toMixedTaskS [] [])) [.t 41]⟩,
      ⟨some 43, none, .call (.k (.fn n_laws_eqMixedTaskS [] [])) [.t 40, .t 42]⟩,
      ⟨some 44, none, .not (.t 43)⟩])
    (.cond (.t 44) (.seq (.ops [⟨some 4, none, .mv (.k (.b false))⟩])
    (.ret))
    (.skip)))
    (.seq (.seq (.ops [⟨some 45, none, .mv (.t 8)⟩,
      ⟨some 46, none, .mv (.t 1)⟩,
      ⟨some 47, none, .call (.k (.fn n_laws_toJobS [] [])) [.t 46]⟩,
      ⟨some 48, none, .call (.k (.fn n_laws_eqJobS [] [])) [.t 45, .t 47]⟩,
      ⟨some 49, none, .not (.t 48)⟩])
    (.cond (.t 49) (.seq (.ops [⟨some 4, none, .mv (.k (.b false))⟩])
    (.ret))
    (.skip)))
    (.seq (.ops [⟨some 10, none, .mv (.k (.i .i64 1))⟩])
    (.seq (.ops [⟨some 50, none, .mv (.t 7)⟩,
      ⟨some 51, none, .mv (.t 10)⟩,
      ⟨some 52, none, .call (.k (.fn n_laws_markMixedTaskS [] [])) [.t 50, .t 51]⟩,
      ⟨some 10, none, .mv (.t 52)⟩])
    (.seq (.ops [⟨some 53, none, .mv (.t 8)⟩,
      ⟨some 54, none, .mv (.t 10)⟩,
      ⟨some 55, none, .call (.k (.fn n_laws_markJobS [] [])) [.t 53, .t 54]⟩,
      ⟨some 10, none, .mv (.t 55)⟩])
    (.seq (.seq (.ops [⟨some 56, none, .mv (.t 10)⟩,
      ⟨some 57, none, .bin .lss (.t 56) (.k (.i .i64 0))⟩,
      ⟨some 58, none, .mv (.t 57)⟩,
      ⟨some 59, (some (58, false)), .ldn 3 (.t 9)⟩,
      ⟨some 60, (some (58, false)), .ldn 3 (.t 6)⟩,
      ⟨some 61, (some (58, false)), .call (.k (.fn n_laws_eqMixedRun [] [])) [.t 59, .t 60]⟩,
      ⟨some 62, (some (58, false)), .not (.t 61)⟩,
      ⟨some 63, none, .pick (.t 58) (.k (.b true)) (.t 62)⟩])
    (.cond (.t 63) (.seq (.ops [⟨some 4, none, .mv (.k (.b false))⟩])
    (.ret))
    (.skip)))
    (.seq (.ops [⟨some 11, none, .mv (.k (.i .i64 1))⟩])
    (.seq (.ops [⟨some 64, none, .ldn 3 (.t 9)⟩,
      ⟨some 65, none, .mv (.t 11)⟩,
      ⟨some 66, none, .call (.k (.fn n_laws_markMixedRun [] [])) [.t 64, .t 65]⟩,
      ⟨some 11, none, .mv (.t 66)⟩])
    (.seq (.ops [⟨some 12, none, .mv (.k (.i .i64 1))⟩])
    (.seq (.ops [⟨some 67, none, .ldn 3 (.t 9)⟩,
      ⟨some 68, none, .mv (.t 12)⟩,
      ⟨some 69, none, .call (.k (.fn n_laws_heldMixedRun [] [])) [.t 67, .t 68]⟩,
      ⟨some 12, none, .mv (.t 69)⟩])
    (.seq (.seq (.ops [⟨some 70, none, .mv (.t 12)⟩,
      ⟨some 71, none, .bin .lss (.t 70) (.k (.i .i64 0))⟩])
    (.cond (.t 71) (.seq (.ops [⟨some 4, none, .mv (.k (.b false))⟩])
    (.ret))
    (.skip)))
    (.seq (.seq (.ops [⟨some 72, none, .mv (.t 12)⟩,
      ⟨some 73, none, .mv (.t 11)⟩,
      ⟨some 74, none, .bin .neq (.t 72) (.t 73)⟩])
    (.cond (.t 74) (.seq (.ops [⟨some 4, none, .mv (.k (.b false))⟩])
    (.ret))
    (.skip)))
    (.seq (.ops [⟨some 75, none, .mv (.t 0)⟩,
      ⟨some 76, none, .call (.k (.fn n_laws_toMixedTaskS [] [])) [.t 75]⟩,
      ⟨some 77, none, .mv (.t 1)⟩,
      ⟨some 78, none, .call (.k (.fn n_laws_toJobS [] [])) [.t 77]⟩,
      ⟨some 79, none, .call (.k (.fn n_impl_RunMixed [] [])) [.t 76, .t 78]⟩,
      ⟨some 13, none, .alloc ty_impl_MixedRun [.sn, .sn, .i .i64 0]⟩,
      ⟨none, none, .st 3 (.t 13) (.t 79)⟩])
    (.seq (.seq (.ops [⟨some 80, none, .ldn 3 (.t 13)⟩,
      ⟨some 81, none, .ldn 3 (.t 6)⟩,
      ⟨some 82, none, .call (.k (.fn n_laws_eqMixedRun [] [])) [.t 80, .t 81]⟩,
      ⟨some 83, none, .not (.t 82)⟩])
    (.cond (.t 83) (.seq (.ops [⟨some 4, none, .mv (.k (.b false))⟩])
    (.ret))
    (.skip)))
    (.seq (.ops [⟨some 12, none, .mv (.k (.i .i64 1))⟩])
    (.seq (.ops [⟨some 84, none, .ldn 3 (.t 9)⟩,
      ⟨some 85, none, .mv (.t 12)⟩,
      ⟨some 86, none, .call (.k (.fn n_laws_heldMixedRun [] [])) [.t 84, .t 85]⟩,
      ⟨some 12, none, .mv (.t 86)⟩])
    (.seq (.seq (.ops [⟨some 87, none, .mv (.t 12)⟩,
      ⟨some 88, none, .bin .lss (.t 87) (.k (.i .i64 0))⟩])
    (.cond (.t 88) (.seq (.ops [⟨some 4, none, .mv (.k (.b false))⟩])
    (.ret))
    (.skip)))
    (.seq (.seq (.ops [⟨some 89, none, .mv (.t 12)⟩,
      ⟨some 90, none, .mv (.t 11)⟩,
      ⟨some 91, none, .bin .neq (.t 89) (.t 90)⟩])
    (.cond (.t 91) (.seq (.ops [⟨some 4, none, .mv (.k (.b false))⟩])
    (.ret))
    (.skip)))
    (.seq (.ops [⟨some 4, none, .mv (.k (.b true))⟩])
    (.ret))))))))))))))))))))))))))))))
theorem k_laws_FnExactRunMixed : chkF Try.prog Try.f7 92 c_laws_FnExactRunMixed [.t 4] = true := by kernel_rfl
theorem call_laws_FnExactRunMixed {args : List AV} {σ : List AB} {K : AV → List AB → Prop} (hn : args.length ≤ 92) (hw : wpC Try.prog σ.length 92 c_laws_FnExactRunMixed (retP σ.length [.t 4] K) ⟨initT 0 args, σ⟩) : CallWp Try.prog n_laws_FnExactRunMixed args σ K := call_fn mixed Try.func7 k_laws_FnExactRunMixed hn hw
def c_impl_RunMixed : LC := .seq (.ops [⟨some 4, none, .alloc ty_impl_MixedRun [.sn, .sn, .i .i64 0]⟩])
    (.seq (.ops [⟨some 10, none, .mv (.t 0)⟩,
      ⟨some 11, none, .call (.k (.fn n_impl_DeadlineScale [] [])) [.t 10]⟩,
      ⟨some 9, none, .mv (.t 11)⟩,
      ⟨some 12, none, .ext 0 (.t 9)⟩,
      ⟨some 13, none, .ext 1 (.t 9)⟩,
      ⟨some 5, none, .alloc ty_impl_Fraction [.i .i64 0, .i .i64 0]⟩,
      ⟨none, none, .st 2 (.t 5) (.t 12)⟩,
      ⟨some 6, none, .mv (.t 13)⟩])
    (.seq (.seq (.ops [⟨some 14, none, .mv (.t 6)⟩,
      ⟨some 15, none, .not (.t 14)⟩,
      ⟨some 16, none, .mv (.t 15)⟩,
      ⟨some 17, (some (16, false)), .mv (.t 0)⟩,
      ⟨some 18, (some (16, false)), .mv (.t 1)⟩,
      ⟨some 19, (some (16, false)), .call (.k (.fn n_impl_MixedLegal [] [])) [.t 17, .t 18]⟩,
      ⟨some 20, (some (16, false)), .not (.t 19)⟩,
      ⟨some 21, none, .pick (.t 16) (.k (.b true)) (.t 20)⟩])
    (.cond (.t 21) (.seq (.ops [⟨some 22, none, .build [.sn, .sn, .i .i64 0] []⟩,
      ⟨none, none, .st 3 (.t 4) (.t 22)⟩])
    (.ret))
    (.skip)))
    (.seq (.ops [⟨some 23, none, .mv (.t 0)⟩,
      ⟨some 24, none, .ldn 2 (.t 5)⟩,
      ⟨some 25, none, .build [.sn, .i .i64 0, .i .i64 0, .b false, .i .i64 0, .i .i64 0] [(0, 1, .t 23), (1, 2, .t 24), (5, 1, .k (.i .i64 (-1)))]⟩,
      ⟨some 26, none, .box ty_impl_mixed (.t 25)⟩,
      ⟨some 7, none, .mv (.t 26)⟩])
    (.seq (.ops [⟨some 27, none, .mv (.t 1)⟩,
      ⟨some 28, none, .mv (.t 7)⟩,
      ⟨some 29, none, .mkf n_impl_mixed_pick [.t 28] []⟩,
      ⟨some 30, none, .call (.k (.fn n_impl_simulate [] [])) [.t 27, .t 29]⟩,
      ⟨some 8, none, .alloc ty_impl_Schedule [.sn, .sn]⟩,
      ⟨none, none, .st 2 (.t 8) (.t 30)⟩])
    (.seq (.draw 9 [⟨some 31, none, .fa 0 (.t 8)⟩,
      ⟨some 32, none, .ld (.t 31)⟩,
      ⟨some 33, none, .fa 1 (.t 8)⟩,
      ⟨some 34, none, .ld (.t 33)⟩,
      ⟨some 35, none, .mv (.t 7)⟩,
      ⟨some 36, none, .nilc (.t 35)⟩,
      ⟨some 37, none, .fa 5 (.t 36)⟩,
      ⟨some 38, none, .ld (.t 37)⟩,
      ⟨some 39, none, .build [.sn, .sn, .i .i64 0] [(0, 1, .t 32), (1, 1, .t 34), (2, 1, .t 38)]⟩,
      ⟨none, none, .st 3 (.t 4) (.t 39)⟩])
    (.ret))))))
theorem k_impl_RunMixed : chkF Try.prog Try.f13 40 c_impl_RunMixed [.c 4 (some 3)] = true := by kernel_rfl
theorem call_impl_RunMixed {args : List AV} {σ : List AB} {K : AV → List AB → Prop} (hn : args.length ≤ 40) (hw : wpC Try.prog σ.length 40 c_impl_RunMixed (retP σ.length [.c 4 (some 3)] K) ⟨initT 0 args, σ⟩) : CallWp Try.prog n_impl_RunMixed args σ K := call_fn mixed Try.func13 k_impl_RunMixed hn hw
def l0_spec_RunMixed : LC := .seq (.seq (.ops [⟨some 66, none, .mv (.t 13)⟩,
      ⟨some 67, none, .mv (.t 1)⟩,
      ⟨some 68, none, .len (.t 67)⟩,
      ⟨some 69, none, .bin .lss (.t 66) (.t 68)⟩])
    (.cond (.t 69) (.skip)
    (.exit 4)))
    (.seq (.block 5 (.seq (.ops [⟨some 72, none, .mv (.t 1)⟩,
      ⟨some 73, none, .mv (.t 13)⟩,
      ⟨some 74, none, .ia 4 (.t 72) (.t 73)⟩,
      ⟨some 75, none, .fa 1 (.t 74)⟩,
      ⟨some 76, none, .ld (.t 75)⟩,
      ⟨some 77, none, .mv (.t 11)⟩,
      ⟨some 78, none, .bin .lss (.t 76) (.t 77)⟩,
      ⟨some 79, none, .mv (.t 78)⟩,
      ⟨some 80, (some (79, true)), .mv (.t 0)⟩,
      ⟨some 81, (some (79, true)), .mv (.t 1)⟩,
      ⟨some 82, (some (79, true)), .mv (.t 13)⟩,
      ⟨some 83, (some (79, true)), .ia 4 (.t 81) (.t 82)⟩,
      ⟨some 84, (some (79, true)), .fa 0 (.t 83)⟩,
      ⟨some 85, (some (79, true)), .ld (.t 84)⟩,
      ⟨some 86, (some (79, true)), .ia 4 (.t 80) (.t 85)⟩,
      ⟨some 87, (some (79, true)), .fa 3 (.t 86)⟩,
      ⟨some 88, (some (79, true)), .ld (.t 87)⟩,
      ⟨some 89, (some (79, true)), .not (.t 88)⟩,
      ⟨some 90, none, .pick (.t 79) (.t 89) (.k (.b false))⟩])
    (.cond (.t 90) (.ops [⟨some 91, none, .mv (.t 8)⟩,
      ⟨some 92, none, .mv (.t 13)⟩,
      ⟨some 93, none, .ia 1 (.t 91) (.t 92)⟩,
      ⟨none, none, .st 1 (.t 93) (.k (.i .i64 0))⟩])
    (.skip))))
    (.ops [⟨some 70, none, .mv (.t 13)⟩,
      ⟨some 71, none, .bin .add (.t 70) (.k (.i .i64 1))⟩,
      ⟨some 13, none, .mv (.t 71)⟩]))
def l1_spec_RunMixed : LC := .seq (.seq (.ops [⟨some 50, none, .mv (.t 11)⟩,
      ⟨some 51, none, .bin .lss (.t 50) (.k (.i .i64 120))⟩])
    (.cond (.t 51) (.skip)
    (.exit 2)))
    (.seq (.block 3 (.seq (.ops [⟨some 54, none, .mv (.t 0)⟩,
      ⟨some 55, none, .mv (.t 1)⟩,
      ⟨some 56, none, .mv (.t 8)⟩,
      ⟨some 57, none, .ldn 2 (.t 5)⟩,
      ⟨some 58, none, .mv (.t 10)⟩,
      ⟨some 59, none, .mv (.t 11)⟩,
      ⟨some 60, none, .call (.k (.fn n_spec_l15Best [] [])) [.t 54, .t 55, .t 56, .t 57, .t 58, .t 59]⟩,
      ⟨some 12, none, .mv (.t 60)⟩])
    (.join (.seq (.ops [⟨some 61, none, .mv (.t 10)⟩,
      ⟨some 62, none, .mv (.t 61)⟩,
      ⟨some 63, (some (62, true)), .mv (.t 12)⟩,
      ⟨some 64, (some (62, true)), .bin .lss (.t 63) (.k (.i .i64 0))⟩,
      ⟨some 65, none, .pick (.t 62) (.t 64) (.k (.b false))⟩])
    (.cond (.t 65) (.seq (.ops [⟨some 10, none, .mv (.k (.b false))⟩])
    (.seq (.seq (.ops [⟨some 13, none, .mv (.k (.i .i64 0))⟩])
    (.block 4 (.loop l0_spec_RunMixed)))
    (.ops [⟨some 94, none, .mv (.t 0)⟩,
      ⟨some 95, none, .mv (.t 1)⟩,
      ⟨some 96, none, .mv (.t 8)⟩,
      ⟨some 97, none, .ldn 2 (.t 5)⟩,
      ⟨some 98, none, .mv (.t 10)⟩,
      ⟨some 99, none, .mv (.t 11)⟩,
      ⟨some 100, none, .call (.k (.fn n_spec_l15Best [] [])) [.t 94, .t 95, .t 96, .t 97, .t 98, .t 99]⟩,
      ⟨some 12, none, .mv (.t 100)⟩])))
    (.skip)))
    (.seq (.ops [⟨some 101, none, .fa 0 (.t 7)⟩,
      ⟨some 102, none, .ld (.t 101)⟩,
      ⟨some 103, none, .mv (.t 12)⟩,
      ⟨some 104, none, .bsl ty_int [.i .i64 0] 1 [(0, 1, .t 103)]⟩,
      ⟨some 105, none, .app ty_int 1 8 (.t 102) (.t 104)⟩,
      ⟨some 106, none, .fa 0 (.t 7)⟩,
      ⟨none, none, .st 1 (.t 106) (.t 105)⟩])
    (.seq (.seq (.ops [⟨some 107, none, .mv (.t 12)⟩,
      ⟨some 108, none, .bin .lss (.t 107) (.k (.i .i64 0))⟩])
    (.cond (.t 108) (.exit 3)
    (.skip)))
    (.seq (.ops [⟨some 109, none, .mv (.t 8)⟩,
      ⟨some 110, none, .mv (.t 12)⟩,
      ⟨some 111, none, .mv (.t 8)⟩,
      ⟨some 112, none, .mv (.t 12)⟩,
      ⟨some 113, none, .ia 1 (.t 111) (.t 112)⟩,
      ⟨some 114, none, .ld (.t 113)⟩,
      ⟨some 115, none, .bin .sub (.t 114) (.k (.i .i64 1))⟩,
      ⟨some 116, none, .ia 1 (.t 109) (.t 110)⟩,
      ⟨none, none, .st 1 (.t 116) (.t 115)⟩])
    (.join (.seq (.ops [⟨some 117, none, .mv (.t 8)⟩,
      ⟨some 118, none, .mv (.t 12)⟩,
      ⟨some 119, none, .ia 1 (.t 117) (.t 118)⟩,
      ⟨some 120, none, .ld (.t 119)⟩,
      ⟨some 121, none, .bin .eql (.t 120) (.k (.i .i64 0))⟩])
    (.cond (.t 121) (.ops [⟨some 122, none, .fa 1 (.t 7)⟩,
      ⟨some 123, none, .ld (.t 122)⟩,
      ⟨some 124, none, .mv (.t 12)⟩,
      ⟨some 125, none, .mv (.t 11)⟩,
      ⟨some 126, none, .bin .add (.t 125) (.k (.i .i64 1))⟩,
      ⟨some 127, none, .ia 1 (.t 123) (.t 124)⟩,
      ⟨none, none, .st 1 (.t 127) (.t 126)⟩])
    (.skip)))
    (.seq (.ops [⟨some 128, none, .mv (.t 0)⟩,
      ⟨some 129, none, .mv (.t 1)⟩,
      ⟨some 130, none, .mv (.t 12)⟩,
      ⟨some 131, none, .ia 4 (.t 129) (.t 130)⟩,
      ⟨some 132, none, .fa 0 (.t 131)⟩,
      ⟨some 133, none, .ld (.t 132)⟩,
      ⟨some 134, none, .ia 4 (.t 128) (.t 133)⟩,
      ⟨some 135, none, .ldn 4 (.t 134)⟩,
      ⟨some 14, none, .alloc ty_impl_MixedTask [.i .i64 0, .i .i64 0, .i .i64 0, .b false]⟩,
      ⟨none, none, .st 4 (.t 14) (.t 135)⟩])
    (.seq (.draw 28 [⟨some 136, none, .fa 3 (.t 14)⟩,
      ⟨some 137, none, .ld (.t 136)⟩,
      ⟨some 138, none, .mv (.t 137)⟩,
      ⟨some 139, (some (138, true)), .mv (.t 10)⟩,
      ⟨some 140, (some (138, true)), .not (.t 139)⟩,
      ⟨some 141, none, .pick (.t 138) (.t 140) (.k (.b false))⟩,
      ⟨some 142, none, .mv (.t 141)⟩,
      ⟨some 143, (some (142, true)), .mv (.t 8)⟩,
      ⟨some 144, (some (142, true)), .mv (.t 12)⟩,
      ⟨some 145, (some (142, true)), .ia 1 (.t 143) (.t 144)⟩,
      ⟨some 146, (some (142, true)), .ld (.t 145)⟩,
      ⟨some 147, (some (142, true)), .bin .gtr (.t 146) (.k (.i .i64 0))⟩,
      ⟨some 148, none, .pick (.t 142) (.t 147) (.k (.b false))⟩,
      ⟨some 149, none, .mv (.t 148)⟩,
      ⟨some 150, (some (149, true)), .mv (.t 1)⟩,
      ⟨some 151, (some (149, true)), .mv (.t 12)⟩,
      ⟨some 152, (some (149, true)), .ia 4 (.t 150) (.t 151)⟩,
      ⟨some 153, (some (149, true)), .fa 3 (.t 152)⟩,
      ⟨some 154, (some (149, true)), .ld (.t 153)⟩,
      ⟨some 155, (some (149, true)), .mv (.t 8)⟩,
      ⟨some 156, (some (149, true)), .mv (.t 12)⟩,
      ⟨some 157, (some (149, true)), .ia 1 (.t 155) (.t 156)⟩,
      ⟨some 158, (some (149, true)), .ld (.t 157)⟩,
      ⟨some 159, (some (149, true)), .bin .sub (.t 154) (.t 158)⟩,
      ⟨some 160, (some (149, true)), .fa 0 (.t 14)⟩,
      ⟨some 161, (some (149, true)), .ld (.t 160)⟩,
      ⟨some 162, (some (149, true)), .bin .geq (.t 159) (.t 161)⟩,
      ⟨some 163, none, .pick (.t 149) (.t 162) (.k (.b false))⟩])
    (.cond (.t 163) (.seq (.ops [⟨some 10, none, .mv (.k (.b true))⟩])
    (.seq (.ops [⟨some 164, none, .fa 2 (.t 7)⟩,
      ⟨some 165, none, .ld (.t 164)⟩,
      ⟨some 166, none, .bin .lss (.t 165) (.k (.i .i64 0))⟩])
    (.cond (.t 166) (.ops [⟨some 167, none, .mv (.t 11)⟩,
      ⟨some 168, none, .bin .add (.t 167) (.k (.i .i64 1))⟩,
      ⟨some 169, none, .fa 2 (.t 7)⟩,
      ⟨none, none, .st 1 (.t 169) (.t 168)⟩])
    (.skip))))
    (.skip)))))))))))
    (.ops [⟨some 52, none, .mv (.t 11)⟩,
      ⟨some 53, none, .bin .add (.t 52) (.k (.i .i64 1))⟩,
      ⟨some 11, none, .mv (.t 53)⟩]))
def l2_spec_RunMixed : LC := .seq (.seq (.ops [⟨some 31, none, .mv (.t 9)⟩,
      ⟨some 32, none, .mv (.t 1)⟩,
      ⟨some 33, none, .len (.t 32)⟩,
      ⟨some 34, none, .bin .lss (.t 31) (.t 33)⟩])
    (.cond (.t 34) (.skip)
    (.exit 0)))
    (.seq (.block 1 (.seq (.ops [⟨some 37, none, .mv (.t 8)⟩,
      ⟨some 38, none, .mv (.t 1)⟩,
      ⟨some 39, none, .mv (.t 9)⟩,
      ⟨some 40, none, .ia 4 (.t 38) (.t 39)⟩,
      ⟨some 41, none, .fa 3 (.t 40)⟩,
      ⟨some 42, none, .ld (.t 41)⟩,
      ⟨some 43, none, .bsl ty_int [.i .i64 0] 1 [(0, 1, .t 42)]⟩,
      ⟨some 44, none, .app ty_int 1 8 (.t 37) (.t 43)⟩,
      ⟨some 8, none, .mv (.t 44)⟩])
    (.ops [⟨some 45, none, .fa 1 (.t 7)⟩,
      ⟨some 46, none, .ld (.t 45)⟩,
      ⟨some 47, none, .bsl ty_int [.i .i64 0] 1 [(0, 1, .k (.i .i64 (-1)))]⟩,
      ⟨some 48, none, .app ty_int 1 8 (.t 46) (.t 47)⟩,
      ⟨some 49, none, .fa 1 (.t 7)⟩,
      ⟨none, none, .st 1 (.t 49) (.t 48)⟩])))
    (.ops [⟨some 35, none, .mv (.t 9)⟩,
      ⟨some 36, none, .bin .add (.t 35) (.k (.i .i64 1))⟩,
      ⟨some 9, none, .mv (.t 36)⟩]))
def c_spec_RunMixed : LC := .seq (.ops [⟨some 4, none, .alloc ty_impl_MixedRun [.sn, .sn, .i .i64 0]⟩])
    (.seq (.ops [⟨some 16, none, .mv (.t 0)⟩,
      ⟨some 17, none, .call (.k (.fn n_spec_DeadlineScale [] [])) [.t 16]⟩,
      ⟨some 15, none, .mv (.t 17)⟩,
      ⟨some 18, none, .ext 0 (.t 15)⟩,
      ⟨some 19, none, .ext 1 (.t 15)⟩,
      ⟨some 5, none, .alloc ty_impl_Fraction [.i .i64 0, .i .i64 0]⟩,
      ⟨none, none, .st 2 (.t 5) (.t 18)⟩,
      ⟨some 6, none, .mv (.t 19)⟩])
    (.seq (.seq (.ops [⟨some 20, none, .mv (.t 6)⟩,
      ⟨some 21, none, .not (.t 20)⟩,
      ⟨some 22, none, .mv (.t 21)⟩,
      ⟨some 23, (some (22, false)), .mv (.t 0)⟩,
      ⟨some 24, (some (22, false)), .mv (.t 1)⟩,
      ⟨some 25, (some (22, false)), .call (.k (.fn n_spec_MixedLegal [] [])) [.t 23, .t 24]⟩,
      ⟨some 26, (some (22, false)), .not (.t 25)⟩,
      ⟨some 27, none, .pick (.t 22) (.k (.b true)) (.t 26)⟩])
    (.cond (.t 27) (.seq (.ops [⟨some 28, none, .build [.sn, .sn, .i .i64 0] []⟩,
      ⟨none, none, .st 3 (.t 4) (.t 28)⟩])
    (.ret))
    (.skip)))
    (.seq (.ops [⟨some 29, none, .build [.sn, .sn, .i .i64 0] [(2, 1, .k (.i .i64 (-1)))]⟩,
      ⟨some 7, none, .alloc ty_impl_MixedRun [.sn, .sn, .i .i64 0]⟩,
      ⟨none, none, .st 3 (.t 7) (.t 29)⟩])
    (.seq (.ops [⟨some 30, none, .bsl ty_int [.i .i64 0] 0 []⟩,
      ⟨some 8, none, .mv (.t 30)⟩])
    (.seq (.seq (.ops [⟨some 9, none, .mv (.k (.i .i64 0))⟩])
    (.block 0 (.loop l2_spec_RunMixed)))
    (.seq (.ops [⟨some 10, none, .mv (.k (.b false))⟩])
    (.seq (.seq (.ops [⟨some 11, none, .mv (.k (.i .i64 0))⟩])
    (.block 2 (.loop l1_spec_RunMixed)))
    (.seq (.ops [⟨some 170, none, .ldn 3 (.t 7)⟩,
      ⟨none, none, .st 3 (.t 4) (.t 170)⟩])
    (.ret)))))))))
theorem k_spec_RunMixed : chkF Try.prog Try.f15 171 c_spec_RunMixed [.c 4 (some 3)] = true := by kernel_rfl
theorem call_spec_RunMixed {args : List AV} {σ : List AB} {K : AV → List AB → Prop} (hn : args.length ≤ 171) (hw : wpC Try.prog σ.length 171 c_spec_RunMixed (retP σ.length [.c 4 (some 3)] K) ⟨initT 0 args, σ⟩) : CallWp Try.prog n_spec_RunMixed args σ K := call_fn mixed Try.func15 k_spec_RunMixed hn hw
def c_laws_szMixedTaskS : LC := .seq (.ops [⟨some 4, none, .mv (.k (.i .i64 0))⟩])
    (.seq (.ops [⟨some 5, none, .mv (.t 1)⟩,
      ⟨some 6, none, .mv (.t 0)⟩,
      ⟨some 7, none, .len (.t 6)⟩,
      ⟨some 8, none, .bin .sub (.t 5) (.t 7)⟩,
      ⟨some 1, none, .mv (.t 8)⟩])
    (.seq (.seq (.ops [⟨some 9, none, .mv (.t 1)⟩,
      ⟨some 10, none, .bin .lss (.t 9) (.k (.i .i64 0))⟩])
    (.cond (.t 10) (.seq (.ops [⟨some 4, none, .mv (.k (.i .i64 (-1)))⟩])
    (.ret))
    (.skip)))
    (.seq (.ops [⟨some 11, none, .mv (.t 1)⟩,
      ⟨some 4, none, .mv (.t 11)⟩])
    (.ret))))
theorem k_laws_szMixedTaskS : chkF Try.prog Try.f22 12 c_laws_szMixedTaskS [.t 4] = true := by kernel_rfl
theorem call_laws_szMixedTaskS {args : List AV} {σ : List AB} {K : AV → List AB → Prop} (hn : args.length ≤ 12) (hw : wpC Try.prog σ.length 12 c_laws_szMixedTaskS (retP σ.length [.t 4] K) ⟨initT 0 args, σ⟩) : CallWp Try.prog n_laws_szMixedTaskS args σ K := call_fn mixed Try.func22 k_laws_szMixedTaskS hn hw
def c_laws_szJobS : LC := .seq (.ops [⟨some 4, none, .mv (.k (.i .i64 0))⟩])
    (.seq (.ops [⟨some 5, none, .mv (.t 1)⟩,
      ⟨some 6, none, .mv (.t 0)⟩,
      ⟨some 7, none, .len (.t 6)⟩,
      ⟨some 8, none, .bin .sub (.t 5) (.t 7)⟩,
      ⟨some 1, none, .mv (.t 8)⟩])
    (.seq (.seq (.ops [⟨some 9, none, .mv (.t 1)⟩,
      ⟨some 10, none, .bin .lss (.t 9) (.k (.i .i64 0))⟩])
    (.cond (.t 10) (.seq (.ops [⟨some 4, none, .mv (.k (.i .i64 (-1)))⟩])
    (.ret))
    (.skip)))
    (.seq (.ops [⟨some 11, none, .mv (.t 1)⟩,
      ⟨some 4, none, .mv (.t 11)⟩])
    (.ret))))
theorem k_laws_szJobS : chkF Try.prog Try.f23 12 c_laws_szJobS [.t 4] = true := by kernel_rfl
theorem call_laws_szJobS {args : List AV} {σ : List AB} {K : AV → List AB → Prop} (hn : args.length ≤ 12) (hw : wpC Try.prog σ.length 12 c_laws_szJobS (retP σ.length [.t 4] K) ⟨initT 0 args, σ⟩) : CallWp Try.prog n_laws_szJobS args σ K := call_fn mixed Try.func23 k_laws_szJobS hn hw
def l0_laws_toMixedTaskS : LC := .seq (.seq (.ops [⟨some 8, none, .mv (.t 4)⟩,
      ⟨some 9, none, .mv (.t 0)⟩,
      ⟨some 10, none, .len (.t 9)⟩,
      ⟨some 11, none, .bin .lss (.t 8) (.t 10)⟩])
    (.cond (.t 11) (.skip)
    (.exit 0)))
    (.seq (.block 1 (.ops [⟨some 14, none, .mv (.t 3)⟩,
      ⟨some 15, none, .mv (.t 4)⟩,
      ⟨some 16, none, .mv (.t 0)⟩,
      ⟨some 17, none, .mv (.t 4)⟩,
      ⟨some 18, none, .ia 4 (.t 16) (.t 17)⟩,
      ⟨some 19, none, .ldn 4 (.t 18)⟩,
      ⟨some 20, none, .call (.k (.fn n_laws_toMixedTask [] [])) [.t 19]⟩,
      ⟨some 21, none, .ia 4 (.t 14) (.t 15)⟩,
      ⟨none, none, .st 4 (.t 21) (.t 20)⟩]))
    (.ops [⟨some 12, none, .mv (.t 4)⟩,
      ⟨some 13, none, .bin .add (.t 12) (.k (.i .i64 1))⟩,
      ⟨some 4, none, .mv (.t 13)⟩]))
def c_laws_toMixedTaskS : LC := .seq (.ops [⟨some 2, none, .mv (.k (.sn))⟩])
    (.seq (.ops [⟨some 5, none, .mv (.t 0)⟩,
      ⟨some 6, none, .len (.t 5)⟩,
      ⟨some 7, none, .msl ty_impl_MixedTask 32 [.i .i64 0, .i .i64 0, .i .i64 0, .b false] (.t 6)⟩,
      ⟨some 3, none, .mv (.t 7)⟩])
    (.seq (.seq (.ops [⟨some 4, none, .mv (.k (.i .i64 0))⟩])
    (.block 0 (.loop l0_laws_toMixedTaskS)))
    (.seq (.ops [⟨some 22, none, .mv (.t 3)⟩,
      ⟨some 2, none, .mv (.t 22)⟩])
    (.ret))))
theorem k_laws_toMixedTaskS : chkF Try.prog Try.f24 23 c_laws_toMixedTaskS [.t 2] = true := by kernel_rfl
theorem call_laws_toMixedTaskS {args : List AV} {σ : List AB} {K : AV → List AB → Prop} (hn : args.length ≤ 23) (hw : wpC Try.prog σ.length 23 c_laws_toMixedTaskS (retP σ.length [.t 2] K) ⟨initT 0 args, σ⟩) : CallWp Try.prog n_laws_toMixedTaskS args σ K := call_fn mixed Try.func24 k_laws_toMixedTaskS hn hw
def l0_laws_toJobS : LC := .seq (.seq (.ops [⟨some 8, none, .mv (.t 4)⟩,
      ⟨some 9, none, .mv (.t 0)⟩,
      ⟨some 10, none, .len (.t 9)⟩,
      ⟨some 11, none, .bin .lss (.t 8) (.t 10)⟩])
    (.cond (.t 11) (.skip)
    (.exit 0)))
    (.seq (.block 1 (.ops [⟨some 14, none, .mv (.t 3)⟩,
      ⟨some 15, none, .mv (.t 4)⟩,
      ⟨some 16, none, .mv (.t 0)⟩,
      ⟨some 17, none, .mv (.t 4)⟩,
      ⟨some 18, none, .ia 4 (.t 16) (.t 17)⟩,
      ⟨some 19, none, .ldn 4 (.t 18)⟩,
      ⟨some 20, none, .call (.k (.fn n_laws_toJob [] [])) [.t 19]⟩,
      ⟨some 21, none, .ia 4 (.t 14) (.t 15)⟩,
      ⟨none, none, .st 4 (.t 21) (.t 20)⟩]))
    (.ops [⟨some 12, none, .mv (.t 4)⟩,
      ⟨some 13, none, .bin .add (.t 12) (.k (.i .i64 1))⟩,
      ⟨some 4, none, .mv (.t 13)⟩]))
def c_laws_toJobS : LC := .seq (.ops [⟨some 2, none, .mv (.k (.sn))⟩])
    (.seq (.ops [⟨some 5, none, .mv (.t 0)⟩,
      ⟨some 6, none, .len (.t 5)⟩,
      ⟨some 7, none, .msl ty_impl_Job 32 [.i .i64 0, .i .i64 0, .i .i64 0, .i .i64 0] (.t 6)⟩,
      ⟨some 3, none, .mv (.t 7)⟩])
    (.seq (.seq (.ops [⟨some 4, none, .mv (.k (.i .i64 0))⟩])
    (.block 0 (.loop l0_laws_toJobS)))
    (.seq (.ops [⟨some 22, none, .mv (.t 3)⟩,
      ⟨some 2, none, .mv (.t 22)⟩])
    (.ret))))
theorem k_laws_toJobS : chkF Try.prog Try.f25 23 c_laws_toJobS [.t 2] = true := by kernel_rfl
theorem call_laws_toJobS {args : List AV} {σ : List AB} {K : AV → List AB → Prop} (hn : args.length ≤ 23) (hw : wpC Try.prog σ.length 23 c_laws_toJobS (retP σ.length [.t 2] K) ⟨initT 0 args, σ⟩) : CallWp Try.prog n_laws_toJobS args σ K := call_fn mixed Try.func25 k_laws_toJobS hn hw
def c_laws_eqMixedRun : LC := .seq (.ops [⟨some 2, none, .box ty_impl_MixedRun (.t 0)⟩,
      ⟨some 3, none, .box ty_impl_MixedRun (.t 1)⟩,
      ⟨some 4, none, .mv (.k (.b false))⟩])
    (.seq (.seq (.ops [⟨some 5, none, .fa 0 (.t 2)⟩,
      ⟨some 6, none, .ld (.t 5)⟩,
      ⟨some 7, none, .fa 0 (.t 3)⟩,
      ⟨some 8, none, .ld (.t 7)⟩,
      ⟨some 9, none, .call (.k (.fn n_laws_eqIntS [] [])) [.t 6, .t 8]⟩,
      ⟨some 10, none, .not (.t 9)⟩])
    (.cond (.t 10) (.seq (.ops [⟨some 4, none, .mv (.k (.b false))⟩])
    (.ret))
    (.skip)))
    (.seq (.seq (.ops [⟨some 11, none, .fa 1 (.t 2)⟩,
      ⟨some 12, none, .ld (.t 11)⟩,
      ⟨some 13, none, .fa 1 (.t 3)⟩,
      ⟨some 14, none, .ld (.t 13)⟩,
      ⟨some 15, none, .call (.k (.fn n_laws_eqIntS [] [])) [.t 12, .t 14]⟩,
      ⟨some 16, none, .not (.t 15)⟩])
    (.cond (.t 16) (.seq (.ops [⟨some 4, none, .mv (.k (.b false))⟩])
    (.ret))
    (.skip)))
    (.seq (.seq (.ops [⟨some 17, none, .fa 2 (.t 2)⟩,
      ⟨some 18, none, .ld (.t 17)⟩,
      ⟨some 19, none, .fa 2 (.t 3)⟩,
      ⟨some 20, none, .ld (.t 19)⟩,
      ⟨some 21, none, .bin .neq (.t 18) (.t 20)⟩])
    (.cond (.t 21) (.seq (.ops [⟨some 4, none, .mv (.k (.b false))⟩])
    (.ret))
    (.skip)))
    (.seq (.ops [⟨some 4, none, .mv (.k (.b true))⟩])
    (.ret)))))
theorem k_laws_eqMixedRun : chkF Try.prog Try.f26 22 c_laws_eqMixedRun [.t 4] = true := by kernel_rfl
theorem callC_laws_eqMixedRun {args : List AV} {σ : List AB} {K : AV → List AB → Prop} (hn : args.length ≤ 22) (hw : Closed σ → args.all (below1 σ.length) = true → wpC Try.prog σ.length 22 c_laws_eqMixedRun (retP σ.length [.t 4] K) ⟨initT 0 args, σ⟩) : CallWp Try.prog n_laws_eqMixedRun args σ K := call_fnC mixed Try.func26 k_laws_eqMixedRun hn hw
def l0_laws_eqMixedTaskS : LC := .seq (.seq (.ops [⟨some 11, none, .mv (.t 5)⟩,
      ⟨some 12, none, .mv (.t 0)⟩,
      ⟨some 13, none, .len (.t 12)⟩,
      ⟨some 14, none, .bin .lss (.t 11) (.t 13)⟩])
    (.cond (.t 14) (.skip)
    (.exit 0)))
    (.seq (.block 1 (.seq (.draw 10 [⟨some 17, none, .mv (.t 0)⟩,
      ⟨some 18, none, .mv (.t 5)⟩,
      ⟨some 19, none, .ia 4 (.t 17) (.t 18)⟩,
      ⟨some 20, none, .ldn 4 (.t 19)⟩,
      ⟨some 21, none, .mv (.t 1)⟩,
      ⟨some 22, none, .mv (.t 5)⟩,
      ⟨some 23, none, .ia 4 (.t 21) (.t 22)⟩,
      ⟨some 24, none, .ldn 4 (.t 23)⟩,
      ⟨some 25, none, .call (.k (.fn n_laws_eqMixedTask [] [])) [.t 20, .t 24]⟩,
      ⟨some 26, none, .not (.t 25)⟩])
    (.cond (.t 26) (.seq (.ops [⟨some 4, none, .mv (.k (.b false))⟩])
    (.ret))
    (.skip))))
    (.ops [⟨some 15, none, .mv (.t 5)⟩,
      ⟨some 16, none, .bin .add (.t 15) (.k (.i .i64 1))⟩,
      ⟨some 5, none, .mv (.t 16)⟩]))
def c_laws_eqMixedTaskS : LC := .seq (.ops [⟨some 4, none, .mv (.k (.b false))⟩])
    (.seq (.seq (.ops [⟨some 6, none, .mv (.t 0)⟩,
      ⟨some 7, none, .len (.t 6)⟩,
      ⟨some 8, none, .mv (.t 1)⟩,
      ⟨some 9, none, .len (.t 8)⟩,
      ⟨some 10, none, .bin .neq (.t 7) (.t 9)⟩])
    (.cond (.t 10) (.seq (.ops [⟨some 4, none, .mv (.k (.b false))⟩])
    (.ret))
    (.skip)))
    (.seq (.seq (.ops [⟨some 5, none, .mv (.k (.i .i64 0))⟩])
    (.block 0 (.loop l0_laws_eqMixedTaskS)))
    (.seq (.ops [⟨some 4, none, .mv (.k (.b true))⟩])
    (.ret))))
theorem k_laws_eqMixedTaskS : chkF Try.prog Try.f27 27 c_laws_eqMixedTaskS [.t 4] = true := by kernel_rfl
theorem call_laws_eqMixedTaskS {args : List AV} {σ : List AB} {K : AV → List AB → Prop} (hn : args.length ≤ 27) (hw : wpC Try.prog σ.length 27 c_laws_eqMixedTaskS (retP σ.length [.t 4] K) ⟨initT 0 args, σ⟩) : CallWp Try.prog n_laws_eqMixedTaskS args σ K := call_fn mixed Try.func27 k_laws_eqMixedTaskS hn hw
def l0_laws_eqJobS : LC := .seq (.seq (.ops [⟨some 11, none, .mv (.t 5)⟩,
      ⟨some 12, none, .mv (.t 0)⟩,
      ⟨some 13, none, .len (.t 12)⟩,
      ⟨some 14, none, .bin .lss (.t 11) (.t 13)⟩])
    (.cond (.t 14) (.skip)
    (.exit 0)))
    (.seq (.block 1 (.seq (.draw 10 [⟨some 17, none, .mv (.t 0)⟩,
      ⟨some 18, none, .mv (.t 5)⟩,
      ⟨some 19, none, .ia 4 (.t 17) (.t 18)⟩,
      ⟨some 20, none, .ldn 4 (.t 19)⟩,
      ⟨some 21, none, .mv (.t 1)⟩,
      ⟨some 22, none, .mv (.t 5)⟩,
      ⟨some 23, none, .ia 4 (.t 21) (.t 22)⟩,
      ⟨some 24, none, .ldn 4 (.t 23)⟩,
      ⟨some 25, none, .call (.k (.fn n_laws_eqJob [] [])) [.t 20, .t 24]⟩,
      ⟨some 26, none, .not (.t 25)⟩])
    (.cond (.t 26) (.seq (.ops [⟨some 4, none, .mv (.k (.b false))⟩])
    (.ret))
    (.skip))))
    (.ops [⟨some 15, none, .mv (.t 5)⟩,
      ⟨some 16, none, .bin .add (.t 15) (.k (.i .i64 1))⟩,
      ⟨some 5, none, .mv (.t 16)⟩]))
def c_laws_eqJobS : LC := .seq (.ops [⟨some 4, none, .mv (.k (.b false))⟩])
    (.seq (.seq (.ops [⟨some 6, none, .mv (.t 0)⟩,
      ⟨some 7, none, .len (.t 6)⟩,
      ⟨some 8, none, .mv (.t 1)⟩,
      ⟨some 9, none, .len (.t 8)⟩,
      ⟨some 10, none, .bin .neq (.t 7) (.t 9)⟩])
    (.cond (.t 10) (.seq (.ops [⟨some 4, none, .mv (.k (.b false))⟩])
    (.ret))
    (.skip)))
    (.seq (.seq (.ops [⟨some 5, none, .mv (.k (.i .i64 0))⟩])
    (.block 0 (.loop l0_laws_eqJobS)))
    (.seq (.ops [⟨some 4, none, .mv (.k (.b true))⟩])
    (.ret))))
theorem k_laws_eqJobS : chkF Try.prog Try.f28 27 c_laws_eqJobS [.t 4] = true := by kernel_rfl
theorem call_laws_eqJobS {args : List AV} {σ : List AB} {K : AV → List AB → Prop} (hn : args.length ≤ 27) (hw : wpC Try.prog σ.length 27 c_laws_eqJobS (retP σ.length [.t 4] K) ⟨initT 0 args, σ⟩) : CallWp Try.prog n_laws_eqJobS args σ K := call_fn mixed Try.func28 k_laws_eqJobS hn hw
def l0_laws_markMixedTaskS : LC := .seq (.seq (.ops [⟨some 6, none, .mv (.t 5)⟩,
      ⟨some 7, none, .mv (.t 0)⟩,
      ⟨some 8, none, .len (.t 7)⟩,
      ⟨some 9, none, .bin .lss (.t 6) (.t 8)⟩])
    (.cond (.t 9) (.skip)
    (.exit 0)))
    (.seq (.block 1 (.seq (.ops [⟨some 12, none, .mv (.t 0)⟩,
      ⟨some 13, none, .mv (.t 5)⟩,
      ⟨some 14, none, .mv (.t 1)⟩,
      ⟨some 15, none, .ia 4 (.t 12) (.t 13)⟩,
      ⟨some 16, none, .fa 0 (.t 15)⟩,
      ⟨none, none, .st 1 (.t 16) (.t 14)⟩])
    (.seq (.ops [⟨some 17, none, .mv (.t 1)⟩,
      ⟨some 18, none, .bin .add (.t 17) (.k (.i .i64 1))⟩,
      ⟨some 1, none, .mv (.t 18)⟩])
    (.seq (.ops [⟨some 19, none, .mv (.t 0)⟩,
      ⟨some 20, none, .mv (.t 5)⟩,
      ⟨some 21, none, .mv (.t 1)⟩,
      ⟨some 22, none, .ia 4 (.t 19) (.t 20)⟩,
      ⟨some 23, none, .fa 1 (.t 22)⟩,
      ⟨none, none, .st 1 (.t 23) (.t 21)⟩])
    (.seq (.ops [⟨some 24, none, .mv (.t 1)⟩,
      ⟨some 25, none, .bin .add (.t 24) (.k (.i .i64 1))⟩,
      ⟨some 1, none, .mv (.t 25)⟩])
    (.seq (.ops [⟨some 26, none, .mv (.t 0)⟩,
      ⟨some 27, none, .mv (.t 5)⟩,
      ⟨some 28, none, .mv (.t 1)⟩,
      ⟨some 29, none, .ia 4 (.t 26) (.t 27)⟩,
      ⟨some 30, none, .fa 2 (.t 29)⟩,
      ⟨none, none, .st 1 (.t 30) (.t 28)⟩])
    (.seq (.ops [⟨some 31, none, .mv (.t 1)⟩,
      ⟨some 32, none, .bin .add (.t 31) (.k (.i .i64 1))⟩,
      ⟨some 1, none, .mv (.t 32)⟩])
    (.seq (.ops [⟨some 33, none, .mv (.t 0)⟩,
      ⟨some 34, none, .mv (.t 5)⟩,
      ⟨some 35, none, .mv (.t 1)⟩,
      ⟨some 36, none, .bin .rem (.t 35) (.k (.i .i64 3))⟩,
      ⟨some 37, none, .bin .eql (.t 36) (.k (.i .i64 0))⟩,
      ⟨some 38, none, .ia 4 (.t 33) (.t 34)⟩,
      ⟨some 39, none, .fa 3 (.t 38)⟩,
      ⟨none, none, .st 1 (.t 39) (.t 37)⟩])
    (.ops [⟨some 40, none, .mv (.t 1)⟩,
      ⟨some 41, none, .bin .add (.t 40) (.k (.i .i64 1))⟩,
      ⟨some 1, none, .mv (.t 41)⟩])))))))))
    (.ops [⟨some 10, none, .mv (.t 5)⟩,
      ⟨some 11, none, .bin .add (.t 10) (.k (.i .i64 1))⟩,
      ⟨some 5, none, .mv (.t 11)⟩]))
def c_laws_markMixedTaskS : LC := .seq (.ops [⟨some 4, none, .mv (.k (.i .i64 0))⟩])
    (.seq (.seq (.ops [⟨some 5, none, .mv (.k (.i .i64 0))⟩])
    (.block 0 (.loop l0_laws_markMixedTaskS)))
    (.seq (.ops [⟨some 42, none, .mv (.t 1)⟩,
      ⟨some 4, none, .mv (.t 42)⟩])
    (.ret)))
theorem k_laws_markMixedTaskS : chkF Try.prog Try.f29 43 c_laws_markMixedTaskS [.t 4] = true := by kernel_rfl
theorem call_laws_markMixedTaskS {args : List AV} {σ : List AB} {K : AV → List AB → Prop} (hn : args.length ≤ 43) (hw : wpC Try.prog σ.length 43 c_laws_markMixedTaskS (retP σ.length [.t 4] K) ⟨initT 0 args, σ⟩) : CallWp Try.prog n_laws_markMixedTaskS args σ K := call_fn mixed Try.func29 k_laws_markMixedTaskS hn hw
def l0_laws_markJobS : LC := .seq (.seq (.ops [⟨some 6, none, .mv (.t 5)⟩,
      ⟨some 7, none, .mv (.t 0)⟩,
      ⟨some 8, none, .len (.t 7)⟩,
      ⟨some 9, none, .bin .lss (.t 6) (.t 8)⟩])
    (.cond (.t 9) (.skip)
    (.exit 0)))
    (.seq (.block 1 (.seq (.ops [⟨some 12, none, .mv (.t 0)⟩,
      ⟨some 13, none, .mv (.t 5)⟩,
      ⟨some 14, none, .mv (.t 1)⟩,
      ⟨some 15, none, .ia 4 (.t 12) (.t 13)⟩,
      ⟨some 16, none, .fa 0 (.t 15)⟩,
      ⟨none, none, .st 1 (.t 16) (.t 14)⟩])
    (.seq (.ops [⟨some 17, none, .mv (.t 1)⟩,
      ⟨some 18, none, .bin .add (.t 17) (.k (.i .i64 1))⟩,
      ⟨some 1, none, .mv (.t 18)⟩])
    (.seq (.ops [⟨some 19, none, .mv (.t 0)⟩,
      ⟨some 20, none, .mv (.t 5)⟩,
      ⟨some 21, none, .mv (.t 1)⟩,
      ⟨some 22, none, .ia 4 (.t 19) (.t 20)⟩,
      ⟨some 23, none, .fa 1 (.t 22)⟩,
      ⟨none, none, .st 1 (.t 23) (.t 21)⟩])
    (.seq (.ops [⟨some 24, none, .mv (.t 1)⟩,
      ⟨some 25, none, .bin .add (.t 24) (.k (.i .i64 1))⟩,
      ⟨some 1, none, .mv (.t 25)⟩])
    (.seq (.ops [⟨some 26, none, .mv (.t 0)⟩,
      ⟨some 27, none, .mv (.t 5)⟩,
      ⟨some 28, none, .mv (.t 1)⟩,
      ⟨some 29, none, .ia 4 (.t 26) (.t 27)⟩,
      ⟨some 30, none, .fa 2 (.t 29)⟩,
      ⟨none, none, .st 1 (.t 30) (.t 28)⟩])
    (.seq (.ops [⟨some 31, none, .mv (.t 1)⟩,
      ⟨some 32, none, .bin .add (.t 31) (.k (.i .i64 1))⟩,
      ⟨some 1, none, .mv (.t 32)⟩])
    (.seq (.ops [⟨some 33, none, .mv (.t 0)⟩,
      ⟨some 34, none, .mv (.t 5)⟩,
      ⟨some 35, none, .mv (.t 1)⟩,
      ⟨some 36, none, .ia 4 (.t 33) (.t 34)⟩,
      ⟨some 37, none, .fa 3 (.t 36)⟩,
      ⟨none, none, .st 1 (.t 37) (.t 35)⟩])
    (.ops [⟨some 38, none, .mv (.t 1)⟩,
      ⟨some 39, none, .bin .add (.t 38) (.k (.i .i64 1))⟩,
      ⟨some 1, none, .mv (.t 39)⟩])))))))))
    (.ops [⟨some 10, none, .mv (.t 5)⟩,
      ⟨some 11, none, .bin .add (.t 10) (.k (.i .i64 1))⟩,
      ⟨some 5, none, .mv (.t 11)⟩]))
def c_laws_markJobS : LC := .seq (.ops [⟨some 4, none, .mv (.k (.i .i64 0))⟩])
    (.seq (.seq (.ops [⟨some 5, none, .mv (.k (.i .i64 0))⟩])
    (.block 0 (.loop l0_laws_markJobS)))
    (.seq (.ops [⟨some 40, none, .mv (.t 1)⟩,
      ⟨some 4, none, .mv (.t 40)⟩])
    (.ret)))
theorem k_laws_markJobS : chkF Try.prog Try.f30 41 c_laws_markJobS [.t 4] = true := by kernel_rfl
theorem call_laws_markJobS {args : List AV} {σ : List AB} {K : AV → List AB → Prop} (hn : args.length ≤ 41) (hw : wpC Try.prog σ.length 41 c_laws_markJobS (retP σ.length [.t 4] K) ⟨initT 0 args, σ⟩) : CallWp Try.prog n_laws_markJobS args σ K := call_fn mixed Try.func30 k_laws_markJobS hn hw
def c_laws_markMixedRun : LC := .seq (.ops [⟨some 2, none, .box ty_impl_MixedRun (.t 0)⟩,
      ⟨some 4, none, .mv (.k (.i .i64 0))⟩])
    (.seq (.ops [⟨some 5, none, .fa 0 (.t 2)⟩,
      ⟨some 6, none, .ld (.t 5)⟩,
      ⟨some 7, none, .mv (.t 1)⟩,
      ⟨some 8, none, .call (.k (.fn n_laws_markIntS [] [])) [.t 6, .t 7]⟩,
      ⟨some 1, none, .mv (.t 8)⟩])
    (.seq (.ops [⟨some 9, none, .fa 1 (.t 2)⟩,
      ⟨some 10, none, .ld (.t 9)⟩,
      ⟨some 11, none, .mv (.t 1)⟩,
      ⟨some 12, none, .call (.k (.fn n_laws_markIntS [] [])) [.t 10, .t 11]⟩,
      ⟨some 1, none, .mv (.t 12)⟩])
    (.seq (.ops [⟨some 13, none, .mv (.t 1)⟩,
      ⟨some 4, none, .mv (.t 13)⟩])
    (.ret))))
theorem k_laws_markMixedRun : chkF Try.prog Try.f31 14 c_laws_markMixedRun [.t 4] = true := by kernel_rfl
theorem callC_laws_markMixedRun {args : List AV} {σ : List AB} {K : AV → List AB → Prop} (hn : args.length ≤ 14) (hw : Closed σ → args.all (below1 σ.length) = true → wpC Try.prog σ.length 14 c_laws_markMixedRun (retP σ.length [.t 4] K) ⟨initT 0 args, σ⟩) : CallWp Try.prog n_laws_markMixedRun args σ K := call_fnC mixed Try.func31 k_laws_markMixedRun hn hw
def c_laws_heldMixedRun : LC := .seq (.ops [⟨some 2, none, .box ty_impl_MixedRun (.t 0)⟩,
      ⟨some 4, none, .mv (.k (.i .i64 0))⟩])
    (.seq (.ops [⟨some 5, none, .fa 0 (.t 2)⟩,
      ⟨some 6, none, .ld (.t 5)⟩,
      ⟨some 7, none, .mv (.t 1)⟩,
      ⟨some 8, none, .call (.k (.fn n_laws_heldIntS [] [])) [.t 6, .t 7]⟩,
      ⟨some 1, none, .mv (.t 8)⟩])
    (.seq (.seq (.ops [⟨some 9, none, .mv (.t 1)⟩,
      ⟨some 10, none, .bin .lss (.t 9) (.k (.i .i64 0))⟩])
    (.cond (.t 10) (.seq (.ops [⟨some 4, none, .mv (.k (.i .i64 (-1)))⟩])
    (.ret))
    (.skip)))
    (.seq (.ops [⟨some 11, none, .fa 1 (.t 2)⟩,
      ⟨some 12, none, .ld (.t 11)⟩,
      ⟨some 13, none, .mv (.t 1)⟩,
      ⟨some 14, none, .call (.k (.fn n_laws_heldIntS [] [])) [.t 12, .t 13]⟩,
      ⟨some 1, none, .mv (.t 14)⟩])
    (.seq (.seq (.ops [⟨some 15, none, .mv (.t 1)⟩,
      ⟨some 16, none, .bin .lss (.t 15) (.k (.i .i64 0))⟩])
    (.cond (.t 16) (.seq (.ops [⟨some 4, none, .mv (.k (.i .i64 (-1)))⟩])
    (.ret))
    (.skip)))
    (.seq (.ops [⟨some 17, none, .mv (.t 1)⟩,
      ⟨some 4, none, .mv (.t 17)⟩])
    (.ret))))))
theorem k_laws_heldMixedRun : chkF Try.prog Try.f32 18 c_laws_heldMixedRun [.t 4] = true := by kernel_rfl
theorem callC_laws_heldMixedRun {args : List AV} {σ : List AB} {K : AV → List AB → Prop} (hn : args.length ≤ 18) (hw : Closed σ → args.all (below1 σ.length) = true → wpC Try.prog σ.length 18 c_laws_heldMixedRun (retP σ.length [.t 4] K) ⟨initT 0 args, σ⟩) : CallWp Try.prog n_laws_heldMixedRun args σ K := call_fnC mixed Try.func32 k_laws_heldMixedRun hn hw
def l0_spec_MixedValid : LC := .seq (.seq (.ops [⟨some 5, none, .mv (.t 3)⟩,
      ⟨some 6, none, .mv (.t 0)⟩,
      ⟨some 7, none, .len (.t 6)⟩,
      ⟨some 8, none, .bin .lss (.t 5) (.t 7)⟩])
    (.cond (.t 8) (.skip)
    (.exit 0)))
    (.seq (.block 1 (.seq (.ops [⟨some 11, none, .mv (.t 0)⟩,
      ⟨some 12, none, .mv (.t 3)⟩,
      ⟨some 13, none, .ia 4 (.t 11) (.t 12)⟩,
      ⟨some 14, none, .ldn 4 (.t 13)⟩,
      ⟨some 4, none, .alloc ty_impl_MixedTask [.i .i64 0, .i .i64 0, .i .i64 0, .b false]⟩,
      ⟨none, none, .st 4 (.t 4) (.t 14)⟩])
    (.seq (.ops [⟨some 15, none, .fa 2 (.t 4)⟩,
      ⟨some 16, none, .ld (.t 15)⟩,
      ⟨some 17, none, .call (.k (.fn n_spec_l1In [] [])) [.t 16, .k (.i .i64 1), .k (.i .i64 12)]⟩,
      ⟨some 18, none, .not (.t 17)⟩,
      ⟨some 19, none, .mv (.t 18)⟩,
      ⟨some 20, (some (19, false)), .fa 0 (.t 4)⟩,
      ⟨some 21, (some (19, false)), .ld (.t 20)⟩,
      ⟨some 22, (some (19, false)), .call (.k (.fn n_spec_l1In [] [])) [.t 21, .k (.i .i64 1), .k (.i .i64 8)]⟩,
      ⟨some 23, (some (19, false)), .not (.t 22)⟩,
      ⟨some 24, none, .pick (.t 19) (.k (.b true)) (.t 23)⟩,
      ⟨some 25, none, .mv (.t 24)⟩,
      ⟨some 26, (some (25, false)), .fa 1 (.t 4)⟩,
      ⟨some 27, (some (25, false)), .ld (.t 26)⟩,
      ⟨some 28, (some (25, false)), .fa 0 (.t 4)⟩,
      ⟨some 29, (some (25, false)), .ld (.t 28)⟩,
      ⟨some 30, (some (25, false)), .fa 2 (.t 4)⟩,
      ⟨some 31, (some (25, false)), .ld (.t 30)⟩,
      ⟨some 32, (some (25, false)), .call (.k (.fn n_spec_l1In [] [])) [.t 27, .t 29, .t 31]⟩,
      ⟨some 33, (some (25, false)), .not (.t 32)⟩,
      ⟨some 34, none, .pick (.t 25) (.k (.b true)) (.t 33)⟩,
      ⟨some 35, none, .mv (.t 34)⟩,
      ⟨some 36, (some (35, false)), .fa 3 (.t 4)⟩,
      ⟨some 37, (some (35, false)), .ld (.t 36)⟩,
      ⟨some 38, (some (35, false)), .not (.t 37)⟩,
      ⟨some 39, (some (35, false)), .mv (.t 38)⟩,
      ⟨some 40, (some (39, true)), .fa 1 (.t 4)⟩,
      ⟨some 41, (some (39, true)), .ld (.t 40)⟩,
      ⟨some 42, (some (39, true)), .fa 0 (.t 4)⟩,
      ⟨some 43, (some (39, true)), .ld (.t 42)⟩,
      ⟨some 44, (some (39, true)), .bin .neq (.t 41) (.t 43)⟩,
      ⟨some 45, (some (35, false)), .pick (.t 39) (.t 44) (.k (.b false))⟩,
      ⟨some 46, none, .pick (.t 35) (.k (.b true)) (.t 45)⟩])
    (.cond (.t 46) (.seq (.ops [⟨some 2, none, .mv (.k (.b false))⟩])
    (.ret))
    (.skip)))))
    (.ops [⟨some 9, none, .mv (.t 3)⟩,
      ⟨some 10, none, .bin .add (.t 9) (.k (.i .i64 1))⟩,
      ⟨some 3, none, .mv (.t 10)⟩]))
def c_spec_MixedValid : LC := .seq (.ops [⟨some 2, none, .mv (.k (.b false))⟩])
    (.seq (.seq (.ops [⟨some 3, none, .mv (.k (.i .i64 0))⟩])
    (.block 0 (.loop l0_spec_MixedValid)))
    (.seq (.ops [⟨some 47, none, .mv (.t 0)⟩,
      ⟨some 48, none, .len (.t 47)⟩,
      ⟨some 49, none, .bin .leq (.t 48) (.k (.i .i64 5))⟩,
      ⟨some 2, none, .mv (.t 49)⟩])
    (.ret)))
theorem k_spec_MixedValid : chkF Try.prog Try.f45 50 c_spec_MixedValid [.t 2] = true := by kernel_rfl
theorem call_spec_MixedValid {args : List AV} {σ : List AB} {K : AV → List AB → Prop} (hn : args.length ≤ 50) (hw : wpC Try.prog σ.length 50 c_spec_MixedValid (retP σ.length [.t 2] K) ⟨initT 0 args, σ⟩) : CallWp Try.prog n_spec_MixedValid args σ K := call_fn mixed Try.func45 k_spec_MixedValid hn hw
def l0_impl_DeadlineScale : LC := .seq (.ops [⟨some 18, none, .bin .lss (.t 17) (.t 16)⟩])
    (.seq (.cond (.t 18) (.skip)
    (.exit 0))
    (.seq (.block 1 (.seq (.ops [⟨some 19, none, .ia 4 (.t 15) (.t 17)⟩,
      ⟨some 20, none, .ldn 4 (.t 19)⟩,
      ⟨some 8, none, .alloc ty_impl_MixedTask [.i .i64 0, .i .i64 0, .i .i64 0, .b false]⟩,
      ⟨none, none, .st 4 (.t 8) (.t 20)⟩])
    (.seq (.ops [⟨some 21, none, .fa 2 (.t 8)⟩,
      ⟨some 22, none, .ld (.t 21)⟩,
      ⟨some 23, none, .bin .quo (.k (.i .i64 27720)) (.t 22)⟩,
      ⟨some 9, none, .mv (.t 23)⟩])
    (.seq (.ops [⟨some 24, none, .fa 3 (.t 8)⟩,
      ⟨some 25, none, .ld (.t 24)⟩])
    (.cond (.t 25) (.seq (.ops [⟨some 26, none, .mv (.t 5)⟩,
      ⟨some 27, none, .mv (.t 9)⟩,
      ⟨some 28, none, .fa 0 (.t 8)⟩,
      ⟨some 29, none, .ld (.t 28)⟩,
      ⟨some 30, none, .bin .mul (.t 27) (.t 29)⟩,
      ⟨some 31, none, .bin .add (.t 26) (.t 30)⟩,
      ⟨some 5, none, .mv (.t 31)⟩])
    (.ops [⟨some 32, none, .mv (.t 6)⟩,
      ⟨some 33, none, .mv (.t 9)⟩,
      ⟨some 34, none, .fa 1 (.t 8)⟩,
      ⟨some 35, none, .ld (.t 34)⟩,
      ⟨some 36, none, .bin .mul (.t 33) (.t 35)⟩,
      ⟨some 37, none, .bin .add (.t 32) (.t 36)⟩,
      ⟨some 6, none, .mv (.t 37)⟩]))
    (.ops [⟨some 38, none, .mv (.t 4)⟩,
      ⟨some 39, none, .mv (.t 9)⟩,
      ⟨some 40, none, .fa 0 (.t 8)⟩,
      ⟨some 41, none, .ld (.t 40)⟩,
      ⟨some 42, none, .bin .mul (.t 39) (.t 41)⟩,
      ⟨some 43, none, .bin .add (.t 38) (.t 42)⟩,
      ⟨some 4, none, .mv (.t 43)⟩]))))))
    (.ops [⟨some 44, none, .bin .add (.t 17) (.k (.i .i64 1))⟩,
      ⟨some 17, none, .mv (.t 44)⟩])))
def c_impl_DeadlineScale : LC := .seq (.ops [⟨some 2, none, .alloc ty_impl_Fraction [.i .i64 0, .i .i64 0]⟩,
      ⟨some 3, none, .mv (.k (.b false))⟩])
    (.seq (.seq (.ops [⟨some 11, none, .mv (.t 0)⟩,
      ⟨some 12, none, .call (.k (.fn n_impl_MixedValid [] [])) [.t 11]⟩,
      ⟨some 13, none, .not (.t 12)⟩])
    (.cond (.t 13) (.seq (.ops [⟨some 14, none, .build [.i .i64 0, .i .i64 0] []⟩,
      ⟨none, none, .st 2 (.t 2) (.t 14)⟩,
      ⟨some 3, none, .mv (.k (.b false))⟩])
    (.ret))
    (.skip)))
    (.seq (.ops [⟨some 4, none, .mv (.k (.i .i64 0))⟩,
      ⟨some 5, none, .mv (.k (.i .i64 0))⟩,
      ⟨some 6, none, .mv (.k (.i .i64 0))⟩])
    (.seq (.seq (.ops [⟨some 15, none, .mv (.t 0)⟩,
      ⟨some 16, none, .len (.t 15)⟩,
      ⟨some 17, none, .mv (.k (.i .i64 0))⟩])
    (.block 0 (.loop l0_impl_DeadlineScale)))
    (.seq (.ops [⟨some 45, none, .mv (.t 4)⟩,
      ⟨some 46, none, .bin .sub (.k (.i .i64 27720)) (.t 45)⟩,
      ⟨some 10, none, .mv (.t 46)⟩])
    (.seq (.block 2 (.seq (.ops [⟨some 48, none, .mv (.t 4)⟩,
      ⟨some 49, none, .mv (.t 6)⟩,
      ⟨some 50, none, .bin .add (.t 48) (.t 49)⟩,
      ⟨some 51, none, .bin .leq (.t 50) (.k (.i .i64 27720))⟩,
      ⟨some 47, none, .mv (.t 51)⟩])
    (.cond (.t 47) (.seq (.ops [⟨some 52, none, .build [.i .i64 0, .i .i64 0] [(0, 1, .k (.i .i64 1)), (1, 1, .k (.i .i64 1))]⟩,
      ⟨none, none, .st 2 (.t 2) (.t 52)⟩,
      ⟨some 3, none, .mv (.k (.b true))⟩])
    (.ret))
    (.seq (.ops [⟨some 54, none, .mv (.t 10)⟩,
      ⟨some 55, none, .bin .gtr (.t 54) (.k (.i .i64 0))⟩,
      ⟨some 56, none, .mv (.t 55)⟩,
      ⟨some 57, (some (56, true)), .mv (.t 5)⟩,
      ⟨some 58, (some (56, true)), .bin .gtr (.t 57) (.k (.i .i64 0))⟩,
      ⟨some 59, none, .pick (.t 56) (.t 58) (.k (.b false))⟩,
      ⟨some 60, none, .mv (.t 59)⟩,
      ⟨some 61, (some (60, true)), .mv (.t 5)⟩,
      ⟨some 62, (some (60, true)), .mv (.t 10)⟩,
      ⟨some 63, (some (60, true)), .bin .leq (.t 61) (.t 62)⟩,
      ⟨some 64, none, .pick (.t 60) (.t 63) (.k (.b false))⟩,
      ⟨some 65, none, .mv (.t 64)⟩,
      ⟨some 66, (some (65, true)), .mv (.t 5)⟩,
      ⟨some 67, (some (65, true)), .mv (.t 4)⟩,
      ⟨some 68, (some (65, true)), .bin .mul (.t 66) (.t 67)⟩,
      ⟨some 69, (some (65, true)), .mv (.t 6)⟩,
      ⟨some 70, (some (65, true)), .mv (.t 10)⟩,
      ⟨some 71, (some (65, true)), .bin .mul (.t 69) (.t 70)⟩,
      ⟨some 72, (some (65, true)), .bin .add (.t 68) (.t 71)⟩,
      ⟨some 73, (some (65, true)), .mv (.t 10)⟩,
      ⟨some 74, (some (65, true)), .bin .mul (.k (.i .i64 27720)) (.t 73)⟩,
      ⟨some 75, (some (65, true)), .bin .leq (.t 72) (.t 74)⟩,
      ⟨some 76, none, .pick (.t 65) (.t 75) (.k (.b false))⟩,
      ⟨some 53, none, .mv (.t 76)⟩])
    (.cond (.t 53) (.seq (.ops [⟨some 77, none, .mv (.t 5)⟩,
      ⟨some 78, none, .mv (.t 10)⟩,
      ⟨some 79, none, .call (.k (.fn n_impl_reduced [] [])) [.t 77, .t 78]⟩,
      ⟨none, none, .st 2 (.t 2) (.t 79)⟩,
      ⟨some 3, none, .mv (.k (.b true))⟩])
    (.ret))
    (.skip))))))
    (.seq (.ops [⟨some 80, none, .build [.i .i64 0, .i .i64 0] []⟩,
      ⟨none, none, .st 2 (.t 2) (.t 80)⟩,
      ⟨some 3, none, .mv (.k (.b false))⟩])
    (.ret)))))))
theorem k_impl_DeadlineScale : chkF Try.prog Try.f47 81 c_impl_DeadlineScale [.c 2 (some 2), .t 3] = true := by kernel_rfl
theorem call_impl_DeadlineScale {args : List AV} {σ : List AB} {K : AV → List AB → Prop} (hn : args.length ≤ 81) (hw : wpC Try.prog σ.length 81 c_impl_DeadlineScale (retP σ.length [.c 2 (some 2), .t 3] K) ⟨initT 0 args, σ⟩) : CallWp Try.prog n_impl_DeadlineScale args σ K := call_fn mixed Try.func47 k_impl_DeadlineScale hn hw
def c_impl_MixedLegal : LC := .seq (.ops [⟨some 2, none, .box ty_sl_impl_MixedTask (.t 0)⟩,
      ⟨some 4, none, .mv (.k (.b false))⟩])
    (.seq (.ops [⟨some 5, none, .ld (.t 2)⟩,
      ⟨some 6, none, .call (.k (.fn n_impl_MixedValid [] [])) [.t 5]⟩,
      ⟨some 7, none, .mv (.t 6)⟩,
      ⟨some 8, (some (7, true)), .mv (.t 1)⟩,
      ⟨some 9, (some (7, true)), .ld (.t 2)⟩,
      ⟨some 10, (some (7, true)), .len (.t 9)⟩,
      ⟨some 11, (some (7, true)), .mkf n_impl_MixedLegal_1 [] [.t 2]⟩,
      ⟨some 12, (some (7, true)), .call (.k (.fn n_impl_ordered [] [])) [.t 8, .t 10, .t 11]⟩,
      ⟨some 13, none, .pick (.t 7) (.t 12) (.k (.b false))⟩,
      ⟨some 14, none, .mv (.t 13)⟩,
      ⟨some 15, (some (14, true)), .mv (.t 1)⟩,
      ⟨some 16, (some (14, true)), .mkf n_impl_MixedLegal_2 [] [.t 2]⟩,
      ⟨some 17, (some (14, true)), .call (.k (.fn n_impl_spaced [] [])) [.t 15, .k (.fn n_impl_release [] []), .t 16]⟩,
      ⟨some 18, none, .pick (.t 14) (.t 17) (.k (.b false))⟩,
      ⟨some 19, none, .mv (.t 18)⟩,
      ⟨some 20, (some (19, true)), .mv (.t 1)⟩,
      ⟨some 21, (some (19, true)), .mkf n_impl_MixedLegal_3 [] [.t 2]⟩,
      ⟨some 22, (some (19, true)), .call (.k (.fn n_slices_ContainsFunc_impl_Job [] [])) [.t 20, .t 21]⟩,
      ⟨some 23, (some (19, true)), .not (.t 22)⟩,
      ⟨some 24, none, .pick (.t 19) (.t 23) (.k (.b false))⟩,
      ⟨some 4, none, .mv (.t 24)⟩])
    (.ret))
theorem k_impl_MixedLegal : chkF Try.prog Try.f48 25 c_impl_MixedLegal [.t 4] = true := by kernel_rfl
theorem call_impl_MixedLegal {args : List AV} {σ : List AB} {K : AV → List AB → Prop} (hn : args.length ≤ 25) (hw : wpC Try.prog σ.length 25 c_impl_MixedLegal (retP σ.length [.t 4] K) ⟨initT 0 args, σ⟩) : CallWp Try.prog n_impl_MixedLegal args σ K := call_fn mixed Try.func48 k_impl_MixedLegal hn hw
def l0_impl_simulate : LC := .seq (.seq (.ops [⟨some 15, none, .mv (.t 5)⟩,
      ⟨some 16, none, .nilc (.t 15)⟩,
      ⟨some 17, none, .fa 2 (.t 16)⟩,
      ⟨some 18, none, .ld (.t 17)⟩,
      ⟨some 19, none, .bin .lss (.t 18) (.k (.i .i64 120))⟩])
    (.cond (.t 19) (.skip)
    (.exit 0)))
    (.seq (.block 1 (.seq (.ops [⟨some 27, none, .mv (.t 1)⟩,
      ⟨some 28, none, .mv (.t 5)⟩,
      ⟨some 29, none, .call (.t 27) [.t 28]⟩,
      ⟨some 7, none, .mv (.t 29)⟩])
    (.seq (.draw 7 [⟨some 30, none, .fa 0 (.t 6)⟩,
      ⟨some 31, none, .ld (.t 30)⟩,
      ⟨some 32, none, .mv (.t 5)⟩,
      ⟨some 33, none, .nilc (.t 32)⟩,
      ⟨some 34, none, .fa 2 (.t 33)⟩,
      ⟨some 35, none, .ld (.t 34)⟩,
      ⟨some 36, none, .mv (.t 7)⟩,
      ⟨some 37, none, .ia 1 (.t 31) (.t 35)⟩,
      ⟨none, none, .st 1 (.t 37) (.t 36)⟩])
    (.seq (.seq (.ops [⟨some 38, none, .mv (.t 7)⟩,
      ⟨some 39, none, .bin .lss (.t 38) (.k (.i .i64 0))⟩])
    (.cond (.t 39) (.exit 1)
    (.skip)))
    (.seq (.ops [⟨some 40, none, .mv (.t 5)⟩,
      ⟨some 41, none, .nilc (.t 40)⟩,
      ⟨some 42, none, .fa 1 (.t 41)⟩,
      ⟨some 43, none, .ld (.t 42)⟩,
      ⟨some 44, none, .mv (.t 7)⟩,
      ⟨some 45, none, .ia 1 (.t 43) (.t 44)⟩,
      ⟨some 46, none, .ld (.t 45)⟩,
      ⟨some 47, none, .bin .add (.t 46) (.k (.i .i64 1))⟩,
      ⟨some 48, none, .ia 1 (.t 43) (.t 44)⟩,
      ⟨none, none, .st 1 (.t 48) (.t 47)⟩])
    (.seq (.draw 13 [⟨some 49, none, .mv (.t 5)⟩,
      ⟨some 50, none, .nilc (.t 49)⟩,
      ⟨some 51, none, .fa 1 (.t 50)⟩,
      ⟨some 52, none, .ld (.t 51)⟩,
      ⟨some 53, none, .mv (.t 7)⟩,
      ⟨some 54, none, .ia 1 (.t 52) (.t 53)⟩,
      ⟨some 55, none, .ld (.t 54)⟩,
      ⟨some 56, none, .mv (.t 0)⟩,
      ⟨some 57, none, .mv (.t 7)⟩,
      ⟨some 58, none, .ia 4 (.t 56) (.t 57)⟩,
      ⟨some 59, none, .fa 3 (.t 58)⟩,
      ⟨some 60, none, .ld (.t 59)⟩,
      ⟨some 61, none, .bin .eql (.t 55) (.t 60)⟩])
    (.cond (.t 61) (.draw 8 [⟨some 62, none, .fa 1 (.t 6)⟩,
      ⟨some 63, none, .ld (.t 62)⟩,
      ⟨some 64, none, .mv (.t 7)⟩,
      ⟨some 65, none, .mv (.t 5)⟩,
      ⟨some 66, none, .nilc (.t 65)⟩,
      ⟨some 67, none, .fa 2 (.t 66)⟩,
      ⟨some 68, none, .ld (.t 67)⟩,
      ⟨some 69, none, .bin .add (.t 68) (.k (.i .i64 1))⟩,
      ⟨some 70, none, .ia 1 (.t 63) (.t 64)⟩,
      ⟨none, none, .st 1 (.t 70) (.t 69)⟩])
    (.skip))))))))
    (.ops [⟨some 20, none, .mv (.t 5)⟩,
      ⟨some 21, none, .nilc (.t 20)⟩,
      ⟨some 22, none, .fa 2 (.t 21)⟩,
      ⟨some 23, none, .ld (.t 22)⟩,
      ⟨some 24, none, .bin .add (.t 23) (.k (.i .i64 1))⟩,
      ⟨some 25, none, .nilc (.t 20)⟩,
      ⟨some 26, none, .fa 2 (.t 25)⟩,
      ⟨none, none, .st 1 (.t 26) (.t 24)⟩]))
def c_impl_simulate : LC := .seq (.ops [⟨some 4, none, .alloc ty_impl_Schedule [.sn, .sn]⟩])
    (.seq (.ops [⟨some 8, none, .mv (.t 0)⟩,
      ⟨some 9, none, .call (.k (.fn n_impl_newMachine [] [])) [.t 8]⟩,
      ⟨some 5, none, .mv (.t 9)⟩])
    (.seq (.ops [⟨some 10, none, .call (.k (.fn n_impl_none [] [])) [.k (.i .i64 120)]⟩,
      ⟨some 11, none, .mv (.t 0)⟩,
      ⟨some 12, none, .len (.t 11)⟩,
      ⟨some 13, none, .call (.k (.fn n_impl_none [] [])) [.t 12]⟩,
      ⟨some 14, none, .build [.sn, .sn] [(0, 1, .t 10), (1, 1, .t 13)]⟩,
      ⟨some 6, none, .alloc ty_impl_Schedule [.sn, .sn]⟩,
      ⟨none, none, .st 2 (.t 6) (.t 14)⟩])
    (.seq (.block 0 (.loop l0_impl_simulate))
    (.seq (.ops [⟨some 71, none, .ldn 2 (.t 6)⟩,
      ⟨none, none, .st 2 (.t 4) (.t 71)⟩])
    (.ret)))))
theorem k_impl_simulate : chkF Try.prog Try.f49 72 c_impl_simulate [.c 4 (some 2)] = true := by kernel_rfl
theorem callC_impl_simulate {args : List AV} {σ : List AB} {K : AV → List AB → Prop} (hn : args.length ≤ 72) (hw : Closed σ → args.all (below1 σ.length) = true → wpC Try.prog σ.length 72 c_impl_simulate (retP σ.length [.c 4 (some 2)] K) ⟨initT 0 args, σ⟩) : CallWp Try.prog n_impl_simulate args σ K := call_fnC mixed Try.func49 k_impl_simulate hn hw
def c_impl_mixed_pick : LC := .seq (.ops [⟨some 2, none, .box ty_ptr_impl_mixed (.t 0)⟩,
      ⟨some 3, none, .box ty_ptr_impl_machine (.t 1)⟩,
      ⟨some 4, none, .mv (.k (.i .i64 0))⟩])
    (.seq (.ops [⟨some 9, none, .mkf n_impl_mixed_pick_1 [] [.t 2, .t 3]⟩,
      ⟨some 5, none, .alloc ty_func_int_bool [.fnil]⟩,
      ⟨none, none, .st 1 (.t 5) (.t 9)⟩])
    (.join (.seq (.ops [⟨some 10, none, .ld (.t 2)⟩,
      ⟨some 11, none, .nilc (.t 10)⟩,
      ⟨some 12, none, .fa 3 (.t 11)⟩,
      ⟨some 13, none, .ld (.t 12)⟩,
      ⟨some 14, none, .mv (.t 13)⟩,
      ⟨some 15, (some (14, true)), .ld (.t 3)⟩,
      ⟨some 16, (some (14, true)), .ld (.t 3)⟩,
      ⟨some 17, (some (14, true)), .mkf n_impl_machine_deadline [.t 16] []⟩,
      ⟨some 18, (some (14, true)), .ld (.t 5)⟩,
      ⟨some 19, (some (14, true)), .call (.k (.fn n_impl_machine_best [] [])) [.t 15, .t 17, .t 18]⟩,
      ⟨some 20, (some (14, true)), .bin .lss (.t 19) (.k (.i .i64 0))⟩,
      ⟨some 21, none, .pick (.t 14) (.t 20) (.k (.b false))⟩])
    (.cond (.t 21) (.plan [0, 1, 2, 3, 4, 5, 6, 7] [⟨some 22, none, .ld (.t 2)⟩,
      ⟨some 23, none, .ld (.t 2)⟩,
      ⟨some 24, none, .ld (.t 3)⟩,
      ⟨some 25, none, .nilc (.t 24)⟩,
      ⟨some 26, none, .fa 2 (.t 25)⟩,
      ⟨some 27, none, .ld (.t 26)⟩,
      ⟨some 28, none, .nilc (.t 22)⟩,
      ⟨some 29, none, .fa 3 (.t 28)⟩]
      (.one 8 ⟨none, none, .st 1 (.t 29) (.k (.b false))⟩ [(23, none, 2), (24, none, 3)] [9, 10]
        [⟨some 30, none, .nilc (.t 23)⟩,
        ⟨some 31, none, .fa 4 (.t 30)⟩]
      (.one 11 ⟨none, none, .st 1 (.t 31) (.t 27)⟩ [] []
        []
      .fin)))
    (.skip)))
    (.seq (.seq (.ops [⟨some 32, none, .ld (.t 2)⟩,
      ⟨some 33, none, .nilc (.t 32)⟩,
      ⟨some 34, none, .fa 3 (.t 33)⟩,
      ⟨some 35, none, .ld (.t 34)⟩])
    (.cond (.t 35) (.seq (.ops [⟨some 36, none, .ld (.t 3)⟩,
      ⟨some 37, none, .ld (.t 3)⟩,
      ⟨some 38, none, .mkf n_impl_machine_deadline [.t 37] []⟩,
      ⟨some 39, none, .ld (.t 5)⟩,
      ⟨some 40, none, .call (.k (.fn n_impl_machine_best [] [])) [.t 36, .t 38, .t 39]⟩,
      ⟨some 6, none, .mv (.t 40)⟩])
    (.seq (.ops [⟨some 41, none, .mv (.t 6)⟩,
      ⟨some 4, none, .mv (.t 41)⟩])
    (.ret)))
    (.skip)))
    (.seq (.ops [⟨some 42, none, .mkf n_impl_mixed_pick_2 [] [.t 3, .t 5, .t 2]⟩,
      ⟨some 7, none, .mv (.t 42)⟩])
    (.seq (.ops [⟨some 43, none, .ld (.t 3)⟩,
      ⟨some 44, none, .mv (.t 7)⟩,
      ⟨some 45, none, .mkf n_impl_mixed_pick_3 [] [.t 5, .t 3, .t 2]⟩,
      ⟨some 46, none, .call (.k (.fn n_impl_machine_best [] [])) [.t 43, .t 44, .t 45]⟩,
      ⟨some 8, none, .mv (.t 46)⟩])
    (.join (.seq (.draw 52 [⟨some 47, none, .mv (.t 8)⟩,
      ⟨some 48, none, .bin .geq (.t 47) (.k (.i .i64 0))⟩,
      ⟨some 49, none, .mv (.t 48)⟩,
      ⟨some 50, (some (49, true)), .ld (.t 5)⟩,
      ⟨some 51, (some (49, true)), .mv (.t 8)⟩,
      ⟨some 52, (some (49, true)), .call (.t 50) [.t 51]⟩,
      ⟨some 53, none, .pick (.t 49) (.t 52) (.k (.b false))⟩,
      ⟨some 54, none, .mv (.t 53)⟩,
      ⟨some 55, (some (54, true)), .ld (.t 3)⟩,
      ⟨some 56, (some (54, true)), .nilc (.t 55)⟩,
      ⟨some 57, (some (54, true)), .fa 1 (.t 56)⟩,
      ⟨some 58, (some (54, true)), .ld (.t 57)⟩,
      ⟨some 59, (some (54, true)), .mv (.t 8)⟩,
      ⟨some 60, (some (54, true)), .ia 1 (.t 58) (.t 59)⟩,
      ⟨some 61, (some (54, true)), .ld (.t 60)⟩,
      ⟨some 62, (some (54, true)), .bin .add (.t 61) (.k (.i .i64 1))⟩,
      ⟨some 63, (some (54, true)), .ld (.t 2)⟩,
      ⟨some 64, (some (54, true)), .nilc (.t 63)⟩,
      ⟨some 65, (some (54, true)), .fa 0 (.t 64)⟩,
      ⟨some 66, (some (54, true)), .ld (.t 65)⟩,
      ⟨some 67, (some (54, true)), .ld (.t 3)⟩,
      ⟨some 68, (some (54, true)), .nilc (.t 67)⟩,
      ⟨some 69, (some (54, true)), .fa 0 (.t 68)⟩,
      ⟨some 70, (some (54, true)), .ld (.t 69)⟩,
      ⟨some 71, (some (54, true)), .mv (.t 8)⟩,
      ⟨some 72, (some (54, true)), .ia 4 (.t 70) (.t 71)⟩,
      ⟨some 73, (some (54, true)), .fa 0 (.t 72)⟩,
      ⟨some 74, (some (54, true)), .ld (.t 73)⟩,
      ⟨some 75, (some (54, true)), .ia 4 (.t 66) (.t 74)⟩,
      ⟨some 76, (some (54, true)), .fa 0 (.t 75)⟩,
      ⟨some 77, (some (54, true)), .ld (.t 76)⟩,
      ⟨some 78, (some (54, true)), .bin .eql (.t 62) (.t 77)⟩,
      ⟨some 79, none, .pick (.t 54) (.t 78) (.k (.b false))⟩,
      ⟨some 80, none, .mv (.t 79)⟩,
      ⟨some 81, (some (80, true)), .ld (.t 3)⟩,
      ⟨some 82, (some (80, true)), .nilc (.t 81)⟩,
      ⟨some 83, (some (80, true)), .fa 0 (.t 82)⟩,
      ⟨some 84, (some (80, true)), .ld (.t 83)⟩,
      ⟨some 85, (some (80, true)), .mv (.t 8)⟩,
      ⟨some 86, (some (80, true)), .ia 4 (.t 84) (.t 85)⟩,
      ⟨some 87, (some (80, true)), .fa 3 (.t 86)⟩,
      ⟨some 88, (some (80, true)), .ld (.t 87)⟩,
      ⟨some 89, (some (80, true)), .ld (.t 3)⟩,
      ⟨some 90, (some (80, true)), .nilc (.t 89)⟩,
      ⟨some 91, (some (80, true)), .fa 1 (.t 90)⟩,
      ⟨some 92, (some (80, true)), .ld (.t 91)⟩,
      ⟨some 93, (some (80, true)), .mv (.t 8)⟩,
      ⟨some 94, (some (80, true)), .ia 1 (.t 92) (.t 93)⟩,
      ⟨some 95, (some (80, true)), .ld (.t 94)⟩,
      ⟨some 96, (some (80, true)), .bin .add (.t 95) (.k (.i .i64 1))⟩,
      ⟨some 97, (some (80, true)), .bin .gtr (.t 88) (.t 96)⟩,
      ⟨some 98, none, .pick (.t 80) (.t 97) (.k (.b false))⟩])
    (.cond (.t 98) (.seq (.ops [⟨some 99, none, .ld (.t 2)⟩,
      ⟨some 100, none, .nilc (.t 99)⟩,
      ⟨some 101, none, .fa 3 (.t 100)⟩,
      ⟨none, none, .st 1 (.t 101) (.k (.b true))⟩])
    (.seq (.ops [⟨some 102, none, .ld (.t 2)⟩,
      ⟨some 103, none, .nilc (.t 102)⟩,
      ⟨some 104, none, .fa 5 (.t 103)⟩,
      ⟨some 105, none, .ld (.t 104)⟩,
      ⟨some 106, none, .bin .lss (.t 105) (.k (.i .i64 0))⟩])
    (.cond (.t 106) (.plan [0, 1, 2, 3, 4, 5, 6, 7] [⟨some 107, none, .ld (.t 2)⟩,
      ⟨some 108, none, .ld (.t 3)⟩,
      ⟨some 109, none, .nilc (.t 108)⟩,
      ⟨some 110, none, .fa 2 (.t 109)⟩,
      ⟨some 111, none, .ld (.t 110)⟩,
      ⟨some 112, none, .bin .add (.t 111) (.k (.i .i64 1))⟩,
      ⟨some 113, none, .nilc (.t 107)⟩,
      ⟨some 114, none, .fa 5 (.t 113)⟩]
      (.one 8 ⟨none, none, .st 1 (.t 114) (.t 112)⟩ [] []
        []
      .fin))
    (.skip))))
    (.skip)))
    (.seq (.ops [⟨some 115, none, .mv (.t 8)⟩,
      ⟨some 4, none, .mv (.t 115)⟩])
    (.ret))))))))
theorem k_impl_mixed_pick : chkF Try.prog Try.f50 116 c_impl_mixed_pick [.t 4] = true := by kernel_rfl
theorem callC_impl_mixed_pick {args : List AV} {σ : List AB} {K : AV → List AB → Prop} (hn : args.length ≤ 116) (hw : Closed σ → args.all (below1 σ.length) = true → wpC Try.prog σ.length 116 c_impl_mixed_pick (retP σ.length [.t 4] K) ⟨initT 0 args, σ⟩) : CallWp Try.prog n_impl_mixed_pick args σ K := call_fnC mixed Try.func50 k_impl_mixed_pick hn hw
end Go.Proofs.Ytmphblbpofnpaaa
