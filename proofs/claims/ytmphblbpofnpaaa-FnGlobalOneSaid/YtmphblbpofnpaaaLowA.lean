import Derived.Test.YtmphblbpofnpaaaProg
import Derived.Test.YtmphblbpofnpaaaAbsY
import Derived.KernelRfl
namespace Go.Proofs.Ytmphblbpofnpaaa
open Go.Abs
set_option maxRecDepth 100000
theorem mixed : Try.prog.follows .mixedOrders = true := by kernel_rfl
abbrev n_laws_FnGlobalOne : Nat := 9
abbrev n_laws_alive : Nat := 16
abbrev n_impl_RunEdf : Nat := 20
abbrev n_laws_sameInts : Nat := 21
abbrev n_impl_RunGlobal : Nat := 34
abbrev n_spec_DrawRunEdf : Nat := 38
abbrev n_laws_sameSchedule : Nat := 39
abbrev n_spec_RunEdf : Nat := 40
abbrev n_spec_l20Open : Nat := 43
abbrev n_impl_simulate : Nat := 49
abbrev n_impl_TaskValid : Nat := 54
abbrev n_impl_JobsLegal : Nat := 56
abbrev n_impl_edf : Nat := 57
abbrev n_spec_l20Set : Nat := 65
abbrev n_spec_SetValid : Nat := 67
abbrev n_spec_l20Jobs : Nat := 68
abbrev n_impl_isCores : Nat := 69
abbrev n_impl_newMachine : Nat := 70
abbrev n_impl_none : Nat := 71
abbrev n_impl_machine_ready : Nat := 72
abbrev n_slices_SortStableFunc_int : Nat := 73
abbrev n_impl_RunGlobal_1 : Nat := 74
abbrev n_cmp_Compare_int : Nat := 75
abbrev n_impl_clone_int : Nat := 76
abbrev n_spec_JobsLegal : Nat := 77
abbrev n_spec_l1In : Nat := 78
abbrev n_spec_l3Run : Nat := 80
abbrev n_spec_l3Deadlines : Nat := 81
abbrev n_impl_SetValid : Nat := 82
abbrev n_spec_l20Rd_pick : Nat := 83
abbrev n_spec_l20Rd_odd : Nat := 84
abbrev n_impl_ordered : Nat := 87
abbrev n_impl_spaced : Nat := 89
abbrev n_impl_release : Nat := 90
abbrev n_slices_ContainsFunc_impl_Job : Nat := 92
abbrev n_impl_machine_best : Nat := 96
abbrev n_impl_machine_deadline : Nat := 97
abbrev n_impl_in : Nat := 103
abbrev n_slices_Clip_int : Nat := 104
abbrev n_impl_JobsLegal_1 : Nat := 105
abbrev n_impl_JobsLegal_2 : Nat := 106
abbrev n_impl_JobsLegal_3 : Nat := 107
abbrev n_impl_machine_any : Nat := 108
abbrev n_spec_l20Task : Nat := 109
abbrev n_spec_TaskValid : Nat := 110
abbrev n_slices_Repeat_int : Nat := 111
abbrev n_slices_stableCmpFunc_int : Nat := 112
abbrev n_cmp_isNaN_int : Nat := 113
abbrev n_slices_Clone_int : Nat := 114
abbrev n_spec_l3Best : Nat := 116
abbrev n_slices_ContainsFunc_impl_Task : Nat := 117
abbrev n_impl_SetValid_1 : Nat := 118
abbrev n_slices_IndexFunc_impl_Job : Nat := 122
abbrev n_math_bits_Mul : Nat := 123
abbrev n_slices_insertionSortCmpFunc_int : Nat := 124
abbrev n_slices_symMergeCmpFunc_int : Nat := 125
abbrev n_slices_IndexFunc_impl_Task : Nat := 126
abbrev n_math_bits_Mul32 : Nat := 128
abbrev n_math_bits_Mul64 : Nat := 129
abbrev n_slices_rotateCmpFunc_int : Nat := 130
abbrev n_slices_swapRangeCmpFunc_int : Nat := 131
abbrev ty_int : Nat := 3
abbrev ty_sl_impl_Job : Nat := 24
abbrev ty_sl_int : Nat := 27
abbrev ty_impl_Job : Nat := 36
abbrev ty_impl_Schedule : Nat := 40
abbrev ty_sl_impl_Task : Nat := 41
abbrev ty_impl_Task : Nat := 43
abbrev ty_impl_GlobalRun : Nat := 63
abbrev ty_impl_machine : Nat := 106
abbrev ty_spec_l20Rd : Nat := 115
def l0_laws_FnGlobalOne : LC := .seq (.seq (.ops [⟨some 106, none, .mv (.t 9)⟩,
      ⟨some 107, none, .fa 1 (.t 8)⟩,
      ⟨some 108, none, .ld (.t 107)⟩,
      ⟨some 109, none, .len (.t 108)⟩,
      ⟨some 110, none, .bin .lss (.t 106) (.t 109)⟩])
    (.cond (.t 110) (.skip)
    (.exit 2)))
    (.seq (.block 3 (.seq (.draw 11 [⟨some 113, none, .mv (.t 4)⟩,
      ⟨some 114, none, .mv (.t 9)⟩,
      ⟨some 115, none, .ia 4 (.t 113) (.t 114)⟩,
      ⟨some 116, none, .fa 1 (.t 115)⟩,
      ⟨some 117, none, .ld (.t 116)⟩,
      ⟨some 118, none, .mv (.t 4)⟩,
      ⟨some 119, none, .mv (.t 9)⟩,
      ⟨some 120, none, .ia 4 (.t 118) (.t 119)⟩,
      ⟨some 121, none, .fa 3 (.t 120)⟩,
      ⟨some 122, none, .ld (.t 121)⟩,
      ⟨some 123, none, .bin .add (.t 117) (.t 122)⟩,
      ⟨some 10, none, .mv (.t 123)⟩])
    (.seq (.ops [⟨some 124, none, .fa 1 (.t 8)⟩,
      ⟨some 125, none, .ld (.t 124)⟩,
      ⟨some 126, none, .mv (.t 9)⟩,
      ⟨some 127, none, .ia 1 (.t 125) (.t 126)⟩,
      ⟨some 128, none, .ld (.t 127)⟩,
      ⟨some 129, none, .mv (.t 10)⟩,
      ⟨some 130, none, .bin .neq (.t 128) (.t 129)⟩,
      ⟨some 131, none, .mv (.t 130)⟩,
      ⟨some 132, (some (131, true)), .mv (.t 10)⟩,
      ⟨some 133, (some (131, true)), .bin .leq (.t 132) (.k (.i .i64 120))⟩,
      ⟨some 134, none, .pick (.t 131) (.t 133) (.k (.b false))⟩])
    (.cond (.t 134) (.seq (.ops [⟨some 2, none, .mv (.k (.b false))⟩])
    (.ret))
    (.skip)))))
    (.ops [⟨some 111, none, .mv (.t 9)⟩,
      ⟨some 112, none, .bin .add (.t 111) (.k (.i .i64 1))⟩,
      ⟨some 9, none, .mv (.t 112)⟩]))
def l1_laws_FnGlobalOne : LC := .seq (.seq (.ops [⟨some 48, none, .mv (.t 7)⟩,
      ⟨some 49, none, .fa 0 (.t 5)⟩,
      ⟨some 50, none, .ld (.t 49)⟩,
      ⟨some 51, none, .len (.t 50)⟩,
      ⟨some 52, none, .bin .lss (.t 48) (.t 51)⟩])
    (.cond (.t 52) (.skip)
    (.exit 0)))
    (.seq (.block 1 (.seq (.draw 48 [⟨some 55, none, .fa 0 (.t 5)⟩,
      ⟨some 56, none, .ld (.t 55)⟩,
      ⟨some 57, none, .mv (.t 7)⟩,
      ⟨some 58, none, .ia 1 (.t 56) (.t 57)⟩,
      ⟨some 59, none, .ld (.t 58)⟩,
      ⟨some 60, none, .len (.t 59)⟩,
      ⟨some 61, none, .bin .eql (.t 60) (.k (.i .i64 0))⟩,
      ⟨some 62, none, .mv (.t 61)⟩,
      ⟨some 63, (some (62, true)), .fa 0 (.t 6)⟩,
      ⟨some 64, (some (62, true)), .ld (.t 63)⟩,
      ⟨some 65, (some (62, true)), .mv (.t 7)⟩,
      ⟨some 66, (some (62, true)), .ia 1 (.t 64) (.t 65)⟩,
      ⟨some 67, (some (62, true)), .ld (.t 66)⟩,
      ⟨some 68, (some (62, true)), .bin .geq (.t 67) (.k (.i .i64 0))⟩,
      ⟨some 69, none, .pick (.t 62) (.t 68) (.k (.b false))⟩,
      ⟨some 70, none, .mv (.t 69)⟩,
      ⟨some 71, (some (70, false)), .fa 0 (.t 5)⟩,
      ⟨some 72, (some (70, false)), .ld (.t 71)⟩,
      ⟨some 73, (some (70, false)), .mv (.t 7)⟩,
      ⟨some 74, (some (70, false)), .ia 1 (.t 72) (.t 73)⟩,
      ⟨some 75, (some (70, false)), .ld (.t 74)⟩,
      ⟨some 76, (some (70, false)), .len (.t 75)⟩,
      ⟨some 77, (some (70, false)), .bin .eql (.t 76) (.k (.i .i64 1))⟩,
      ⟨some 78, (some (70, false)), .mv (.t 77)⟩,
      ⟨some 79, (some (78, true)), .fa 0 (.t 5)⟩,
      ⟨some 80, (some (78, true)), .ld (.t 79)⟩,
      ⟨some 81, (some (78, true)), .mv (.t 7)⟩,
      ⟨some 82, (some (78, true)), .ia 1 (.t 80) (.t 81)⟩,
      ⟨some 83, (some (78, true)), .ld (.t 82)⟩,
      ⟨some 84, (some (78, true)), .ia 1 (.t 83) (.k (.i .i64 0))⟩,
      ⟨some 85, (some (78, true)), .ld (.t 84)⟩,
      ⟨some 86, (some (78, true)), .fa 0 (.t 6)⟩,
      ⟨some 87, (some (78, true)), .ld (.t 86)⟩,
      ⟨some 88, (some (78, true)), .mv (.t 7)⟩,
      ⟨some 89, (some (78, true)), .ia 1 (.t 87) (.t 88)⟩,
      ⟨some 90, (some (78, true)), .ld (.t 89)⟩,
      ⟨some 91, (some (78, true)), .bin .neq (.t 85) (.t 90)⟩,
      ⟨some 92, (some (70, false)), .pick (.t 78) (.t 91) (.k (.b false))⟩,
      ⟨some 93, none, .pick (.t 70) (.k (.b true)) (.t 92)⟩,
      ⟨some 94, none, .mv (.t 93)⟩,
      ⟨some 95, (some (94, false)), .fa 0 (.t 5)⟩,
      ⟨some 96, (some (94, false)), .ld (.t 95)⟩,
      ⟨some 97, (some (94, false)), .mv (.t 7)⟩,
      ⟨some 98, (some (94, false)), .ia 1 (.t 96) (.t 97)⟩,
      ⟨some 99, (some (94, false)), .ld (.t 98)⟩,
      ⟨some 100, (some (94, false)), .len (.t 99)⟩,
      ⟨some 101, (some (94, false)), .bin .gtr (.t 100) (.k (.i .i64 1))⟩,
      ⟨some 102, none, .pick (.t 94) (.k (.b true)) (.t 101)⟩])
    (.cond (.t 102) (.seq (.ops [⟨some 2, none, .mv (.k (.b false))⟩])
    (.ret))
    (.skip))))
    (.ops [⟨some 53, none, .mv (.t 7)⟩,
      ⟨some 54, none, .bin .add (.t 53) (.k (.i .i64 1))⟩,
      ⟨some 7, none, .mv (.t 54)⟩]))
def c_laws_FnGlobalOne : LC := .seq (.ops [⟨some 2, none, .mv (.k (.b false))⟩])
    (.seq (.seq (.ops [⟨some 11, none, .mv (.t 0)⟩,
      ⟨some 12, none, .len (.t 11)⟩,
      ⟨some 13, none, .bin .gtr (.t 12) (.k (.i .i64 1048576))⟩])
    (.cond (.t 13) (.seq (.ops [⟨some 2, none, .mv (.k (.b true))⟩])
    (.ret))
    (.skip)))
    (.seq (.ops [⟨some 15, none, .mv (.t 0)⟩,
      ⟨some 16, none, .call (.k (.fn n_spec_DrawRunEdf [] [])) [.t 15]⟩,
      ⟨some 14, none, .mv (.t 16)⟩,
      ⟨some 17, none, .ext 0 (.t 14)⟩,
      ⟨some 18, none, .ext 1 (.t 14)⟩,
      ⟨some 3, none, .mv (.t 17)⟩,
      ⟨some 4, none, .mv (.t 18)⟩])
    (.seq (.ops [⟨some 19, none, .mv (.t 3)⟩,
      ⟨some 20, none, .mv (.t 4)⟩,
      ⟨some 21, none, .call (.k (.fn n_impl_RunGlobal [] [])) [.t 19, .t 20, .k (.i .i64 1)]⟩,
      ⟨some 5, none, .alloc ty_impl_GlobalRun [.sn, .sn]⟩,
      ⟨none, none, .st 2 (.t 5) (.t 21)⟩])
    (.seq (.ops [⟨some 22, none, .mv (.t 3)⟩,
      ⟨some 23, none, .mv (.t 4)⟩,
      ⟨some 24, none, .call (.k (.fn n_impl_RunEdf [] [])) [.t 22, .t 23]⟩,
      ⟨some 6, none, .alloc ty_impl_Schedule [.sn, .sn]⟩,
      ⟨none, none, .st 2 (.t 6) (.t 24)⟩])
    (.join (.join (.plan [0, 1, 2] [⟨some 25, none, .ldn 2 (.t 6)⟩,
      ⟨some 26, none, .mv (.t 3)⟩,
      ⟨some 27, none, .mv (.t 4)⟩]
      (.one 3 ⟨some 28, none, .call (.k (.fn n_spec_RunEdf [] [])) [.t 26, .t 27]⟩ [(25, some 2, 6)] []
        []
      (.one 4 ⟨some 29, none, .call (.k (.fn n_laws_sameSchedule [] [])) [.t 25, .t 28]⟩ [] [5, 6, 7, 10]
        [⟨some 30, none, .not (.t 29)⟩,
        ⟨some 31, none, .mv (.t 30)⟩,
        ⟨some 32, (some (31, false)), .fa 0 (.t 5)⟩,
        ⟨some 35, (some (31, false)), .fa 0 (.t 6)⟩]
      (.alt (.one 8 ⟨some 33, (some (31, false)), .ld (.t 32)⟩ [(25, some 2, 6)] [9]
        [⟨some 34, (some (31, false)), .len (.t 33)⟩]
      (.one 11 ⟨some 36, (some (31, false)), .ld (.t 35)⟩ [(25, some 2, 6)] [12, 13, 14, 15, 16, 18]
        [⟨some 37, (some (31, false)), .len (.t 36)⟩,
        ⟨some 38, (some (31, false)), .bin .neq (.t 34) (.t 37)⟩,
        ⟨some 39, none, .pick (.t 31) (.k (.b true)) (.t 38)⟩,
        ⟨some 40, none, .mv (.t 39)⟩,
        ⟨some 41, (some (40, false)), .fa 1 (.t 5)⟩,
        ⟨some 43, (some (40, false)), .fa 1 (.t 6)⟩]
      (.alt (.one 17 ⟨some 42, (some (40, false)), .ld (.t 41)⟩ [(25, some 2, 6)] []
        []
      (.one 19 ⟨some 44, (some (40, false)), .ld (.t 43)⟩ [(25, some 2, 6)] []
        []
      (.one 20 ⟨some 45, (some (40, false)), .call (.k (.fn n_laws_sameInts [] [])) [.t 42, .t 44]⟩ [(25, some 2, 6)] [21, 22]
        [⟨some 46, (some (40, false)), .not (.t 45)⟩,
        ⟨some 47, none, .pick (.t 40) (.k (.b true)) (.t 46)⟩]
      .fin))) (.one 19 ⟨some 44, (some (40, false)), .ld (.t 43)⟩ [(25, some 2, 6)] []
        []
      (.one 17 ⟨some 42, (some (40, false)), .ld (.t 41)⟩ [(25, some 2, 6)] []
        []
      (.one 20 ⟨some 45, (some (40, false)), .call (.k (.fn n_laws_sameInts [] [])) [.t 42, .t 44]⟩ [(25, some 2, 6)] [21, 22]
        [⟨some 46, (some (40, false)), .not (.t 45)⟩,
        ⟨some 47, none, .pick (.t 40) (.k (.b true)) (.t 46)⟩]
      .fin)))))) (.one 11 ⟨some 36, (some (31, false)), .ld (.t 35)⟩ [(25, some 2, 6)] [12]
        [⟨some 37, (some (31, false)), .len (.t 36)⟩]
      (.one 8 ⟨some 33, (some (31, false)), .ld (.t 32)⟩ [(25, some 2, 6)] [9, 13, 14, 15, 16, 18]
        [⟨some 34, (some (31, false)), .len (.t 33)⟩,
        ⟨some 38, (some (31, false)), .bin .neq (.t 34) (.t 37)⟩,
        ⟨some 39, none, .pick (.t 31) (.k (.b true)) (.t 38)⟩,
        ⟨some 40, none, .mv (.t 39)⟩,
        ⟨some 41, (some (40, false)), .fa 1 (.t 5)⟩,
        ⟨some 43, (some (40, false)), .fa 1 (.t 6)⟩]
      (.alt (.one 17 ⟨some 42, (some (40, false)), .ld (.t 41)⟩ [(25, some 2, 6)] []
        []
      (.one 19 ⟨some 44, (some (40, false)), .ld (.t 43)⟩ [(25, some 2, 6)] []
        []
      (.one 20 ⟨some 45, (some (40, false)), .call (.k (.fn n_laws_sameInts [] [])) [.t 42, .t 44]⟩ [(25, some 2, 6)] [21, 22]
        [⟨some 46, (some (40, false)), .not (.t 45)⟩,
        ⟨some 47, none, .pick (.t 40) (.k (.b true)) (.t 46)⟩]
      .fin))) (.one 19 ⟨some 44, (some (40, false)), .ld (.t 43)⟩ [(25, some 2, 6)] []
        []
      (.one 17 ⟨some 42, (some (40, false)), .ld (.t 41)⟩ [(25, some 2, 6)] []
        []
      (.one 20 ⟨some 45, (some (40, false)), .call (.k (.fn n_laws_sameInts [] [])) [.t 42, .t 44]⟩ [(25, some 2, 6)] [21, 22]
        [⟨some 46, (some (40, false)), .not (.t 45)⟩,
        ⟨some 47, none, .pick (.t 40) (.k (.b true)) (.t 46)⟩]
      .fin))))))))))
    (.cond (.t 47) (.seq (.ops [⟨some 2, none, .mv (.k (.b false))⟩])
    (.ret))
    (.skip)))
    (.seq (.seq (.ops [⟨some 7, none, .mv (.k (.i .i64 0))⟩])
    (.block 0 (.loop l1_laws_FnGlobalOne)))
    (.seq (.ops [⟨some 103, none, .mv (.t 3)⟩,
      ⟨some 104, none, .mv (.t 4)⟩,
      ⟨some 105, none, .call (.k (.fn n_impl_RunGlobal [] [])) [.t 103, .t 104, .k (.i .i64 5)]⟩,
      ⟨some 8, none, .alloc ty_impl_GlobalRun [.sn, .sn]⟩,
      ⟨none, none, .st 2 (.t 8) (.t 105)⟩])
    (.seq (.seq (.ops [⟨some 9, none, .mv (.k (.i .i64 0))⟩])
    (.block 2 (.loop l0_laws_FnGlobalOne)))
    (.seq (.ops [⟨some 135, none, .call (.k (.fn n_laws_alive [] [])) []⟩,
      ⟨some 2, none, .mv (.t 135)⟩])
    (.ret))))))))))
theorem k_laws_FnGlobalOne : chkF Try.prog Try.f9 136 c_laws_FnGlobalOne [.t 2] = true := by kernel_rfl
theorem call_laws_FnGlobalOne {args : List AV} {σ : List AB} {K : AV → List AB → Prop} (hn : args.length ≤ 136) (hw : wpC Try.prog σ.length 136 c_laws_FnGlobalOne (retP σ.length [.t 2] K) ⟨initT 0 args, σ⟩) : CallWp Try.prog n_laws_FnGlobalOne args σ K := call_fn mixed Try.func9 k_laws_FnGlobalOne hn hw
def c_laws_alive : LC := .seq (.ops [⟨some 0, none, .mv (.k (.b false))⟩])
    (.seq (.ops [⟨some 1, none, .build [.i .i64 0, .i .i64 0, .i .i64 0] [(0, 1, .k (.i .i64 1)), (1, 1, .k (.i .i64 1)), (2, 1, .k (.i .i64 1))]⟩,
      ⟨some 2, none, .call (.k (.fn n_impl_TaskValid [] [])) [.t 1]⟩,
      ⟨some 0, none, .mv (.t 2)⟩])
    (.ret))
theorem k_laws_alive : chkF Try.prog Try.f16 3 c_laws_alive [.t 0] = true := by kernel_rfl
theorem call_laws_alive {args : List AV} {σ : List AB} {K : AV → List AB → Prop} (hn : args.length ≤ 3) (hw : wpC Try.prog σ.length 3 c_laws_alive (retP σ.length [.t 0] K) ⟨initT 0 args, σ⟩) : CallWp Try.prog n_laws_alive args σ K := call_fn mixed Try.func16 k_laws_alive hn hw
def c_impl_RunEdf : LC := .seq (.ops [⟨some 4, none, .alloc ty_impl_Schedule [.sn, .sn]⟩])
    (.seq (.seq (.ops [⟨some 5, none, .mv (.t 0)⟩,
      ⟨some 6, none, .mv (.t 1)⟩,
      ⟨some 7, none, .call (.k (.fn n_impl_JobsLegal [] [])) [.t 5, .t 6]⟩,
      ⟨some 8, none, .not (.t 7)⟩])
    (.cond (.t 8) (.seq (.ops [⟨some 9, none, .build [.sn, .sn] []⟩,
      ⟨none, none, .st 2 (.t 4) (.t 9)⟩])
    (.ret))
    (.skip)))
    (.seq (.ops [⟨some 10, none, .mv (.t 1)⟩,
      ⟨some 11, none, .call (.k (.fn n_impl_simulate [] [])) [.t 10, .k (.fn n_impl_edf [] [])]⟩,
      ⟨none, none, .st 2 (.t 4) (.t 11)⟩])
    (.ret)))
theorem k_impl_RunEdf : chkF Try.prog Try.f20 12 c_impl_RunEdf [.c 4 (some 2)] = true := by kernel_rfl
theorem call_impl_RunEdf {args : List AV} {σ : List AB} {K : AV → List AB → Prop} (hn : args.length ≤ 12) (hw : wpC Try.prog σ.length 12 c_impl_RunEdf (retP σ.length [.c 4 (some 2)] K) ⟨initT 0 args, σ⟩) : CallWp Try.prog n_impl_RunEdf args σ K := call_fn mixed Try.func20 k_impl_RunEdf hn hw
def l0_laws_sameInts : LC := .seq (.seq (.ops [⟨some 11, none, .mv (.t 5)⟩,
      ⟨some 12, none, .mv (.t 0)⟩,
      ⟨some 13, none, .len (.t 12)⟩,
      ⟨some 14, none, .bin .lss (.t 11) (.t 13)⟩])
    (.cond (.t 14) (.skip)
    (.exit 0)))
    (.seq (.block 1 (.seq (.draw 9 [⟨some 17, none, .mv (.t 0)⟩,
      ⟨some 18, none, .mv (.t 5)⟩,
      ⟨some 19, none, .ia 1 (.t 17) (.t 18)⟩,
      ⟨some 20, none, .ld (.t 19)⟩,
      ⟨some 21, none, .mv (.t 1)⟩,
      ⟨some 22, none, .mv (.t 5)⟩,
      ⟨some 23, none, .ia 1 (.t 21) (.t 22)⟩,
      ⟨some 24, none, .ld (.t 23)⟩,
      ⟨some 25, none, .bin .neq (.t 20) (.t 24)⟩])
    (.cond (.t 25) (.seq (.ops [⟨some 4, none, .mv (.k (.b false))⟩])
    (.ret))
    (.skip))))
    (.ops [⟨some 15, none, .mv (.t 5)⟩,
      ⟨some 16, none, .bin .add (.t 15) (.k (.i .i64 1))⟩,
      ⟨some 5, none, .mv (.t 16)⟩]))
def c_laws_sameInts : LC := .seq (.ops [⟨some 4, none, .mv (.k (.b false))⟩])
    (.seq (.seq (.ops [⟨some 6, none, .mv (.t 0)⟩,
      ⟨some 7, none, .len (.t 6)⟩,
      ⟨some 8, none, .mv (.t 1)⟩,
      ⟨some 9, none, .len (.t 8)⟩,
      ⟨some 10, none, .bin .neq (.t 7) (.t 9)⟩])
    (.cond (.t 10) (.seq (.ops [⟨some 4, none, .mv (.k (.b false))⟩])
    (.ret))
    (.skip)))
    (.seq (.seq (.ops [⟨some 5, none, .mv (.k (.i .i64 0))⟩])
    (.block 0 (.loop l0_laws_sameInts)))
    (.seq (.ops [⟨some 4, none, .mv (.k (.b true))⟩])
    (.ret))))
theorem k_laws_sameInts : chkF Try.prog Try.f21 26 c_laws_sameInts [.t 4] = true := by kernel_rfl
theorem call_laws_sameInts {args : List AV} {σ : List AB} {K : AV → List AB → Prop} (hn : args.length ≤ 26) (hw : wpC Try.prog σ.length 26 c_laws_sameInts (retP σ.length [.t 4] K) ⟨initT 0 args, σ⟩) : CallWp Try.prog n_laws_sameInts args σ K := call_fn mixed Try.func21 k_laws_sameInts hn hw
def l0_impl_RunGlobal : LC := .seq (.ops [⟨some 68, none, .bin .lss (.t 67) (.t 66)⟩])
    (.seq (.cond (.t 68) (.skip)
    (.exit 4))
    (.seq (.block 5 (.seq (.ops [⟨some 69, none, .ia 1 (.t 65) (.t 67)⟩,
      ⟨some 70, none, .ld (.t 69)⟩,
      ⟨some 12, none, .mv (.t 70)⟩])
    (.seq (.ops [⟨some 71, none, .mv (.t 7)⟩,
      ⟨some 72, none, .nilc (.t 71)⟩,
      ⟨some 73, none, .fa 1 (.t 72)⟩,
      ⟨some 74, none, .ld (.t 73)⟩,
      ⟨some 75, none, .mv (.t 12)⟩,
      ⟨some 76, none, .ia 1 (.t 74) (.t 75)⟩,
      ⟨some 77, none, .ld (.t 76)⟩,
      ⟨some 78, none, .bin .add (.t 77) (.k (.i .i64 1))⟩,
      ⟨some 79, none, .ia 1 (.t 74) (.t 75)⟩,
      ⟨none, none, .st 1 (.t 79) (.t 78)⟩])
    (.seq (.draw 13 [⟨some 80, none, .mv (.t 7)⟩,
      ⟨some 81, none, .nilc (.t 80)⟩,
      ⟨some 82, none, .fa 1 (.t 81)⟩,
      ⟨some 83, none, .ld (.t 82)⟩,
      ⟨some 84, none, .mv (.t 12)⟩,
      ⟨some 85, none, .ia 1 (.t 83) (.t 84)⟩,
      ⟨some 86, none, .ld (.t 85)⟩,
      ⟨some 87, none, .ld (.t 4)⟩,
      ⟨some 88, none, .mv (.t 12)⟩,
      ⟨some 89, none, .ia 4 (.t 87) (.t 88)⟩,
      ⟨some 90, none, .fa 3 (.t 89)⟩,
      ⟨some 91, none, .ld (.t 90)⟩,
      ⟨some 92, none, .bin .eql (.t 86) (.t 91)⟩])
    (.cond (.t 92) (.draw 8 [⟨some 93, none, .fa 1 (.t 8)⟩,
      ⟨some 94, none, .ld (.t 93)⟩,
      ⟨some 95, none, .mv (.t 12)⟩,
      ⟨some 96, none, .mv (.t 7)⟩,
      ⟨some 97, none, .nilc (.t 96)⟩,
      ⟨some 98, none, .fa 2 (.t 97)⟩,
      ⟨some 99, none, .ld (.t 98)⟩,
      ⟨some 100, none, .bin .add (.t 99) (.k (.i .i64 1))⟩,
      ⟨some 101, none, .ia 1 (.t 94) (.t 95)⟩,
      ⟨none, none, .st 1 (.t 101) (.t 100)⟩])
    (.skip))))))
    (.ops [⟨some 102, none, .bin .add (.t 67) (.k (.i .i64 1))⟩,
      ⟨some 67, none, .mv (.t 102)⟩])))
def l1_impl_RunGlobal : LC := .seq (.ops [⟨some 45, none, .bin .lss (.t 44) (.t 43)⟩])
    (.seq (.cond (.t 45) (.skip)
    (.exit 2))
    (.seq (.block 3 (.seq (.ops [⟨some 46, none, .mv (.t 44)⟩,
      ⟨some 10, none, .mv (.t 46)⟩])
    (.seq (.ops [⟨some 47, none, .mv (.t 7)⟩,
      ⟨some 48, none, .mv (.t 10)⟩,
      ⟨some 49, none, .call (.k (.fn n_impl_machine_ready [] [])) [.t 47, .t 48]⟩])
    (.cond (.t 49) (.ops [⟨some 50, none, .mv (.t 9)⟩,
      ⟨some 51, none, .mv (.t 10)⟩,
      ⟨some 52, none, .bsl ty_int [.i .i64 0] 1 [(0, 1, .t 51)]⟩,
      ⟨some 53, none, .app ty_int 1 8 (.t 50) (.t 52)⟩,
      ⟨some 9, none, .mv (.t 53)⟩])
    (.skip)))))
    (.ops [⟨some 54, none, .bin .add (.t 44) (.k (.i .i64 1))⟩,
      ⟨some 44, none, .mv (.t 54)⟩])))
def l2_impl_RunGlobal : LC := .seq (.seq (.ops [⟨some 30, none, .mv (.t 7)⟩,
      ⟨some 31, none, .nilc (.t 30)⟩,
      ⟨some 32, none, .fa 2 (.t 31)⟩,
      ⟨some 33, none, .ld (.t 32)⟩,
      ⟨some 34, none, .bin .lss (.t 33) (.k (.i .i64 120))⟩])
    (.cond (.t 34) (.skip)
    (.exit 0)))
    (.seq (.block 1 (.seq (.ops [⟨some 9, none, .mv (.k (.sn))⟩])
    (.seq (.seq (.ops [⟨some 42, none, .ld (.t 4)⟩,
      ⟨some 43, none, .len (.t 42)⟩,
      ⟨some 44, none, .mv (.k (.i .i64 0))⟩])
    (.block 2 (.loop l1_impl_RunGlobal)))
    (.seq (.ops [⟨some 55, none, .mv (.t 9)⟩,
      ⟨some 56, none, .mkf n_impl_RunGlobal_1 [] [.t 4]⟩,
      ⟨some 57, none, .call (.k (.fn n_slices_SortStableFunc_int [] [])) [.t 55, .t 56]⟩])
    (.seq (.ops [⟨some 58, none, .mv (.t 9)⟩,
      ⟨some 59, none, .mv (.t 2)⟩,
      ⟨some 60, none, .mv (.t 9)⟩,
      ⟨some 61, none, .len (.t 60)⟩,
      ⟨some 62, none, .mn (.t 59) (.t 61)⟩,
      ⟨some 63, none, .slc 1 (.t 58) none (some (.t 62)) none⟩,
      ⟨some 64, none, .call (.k (.fn n_impl_clone_int [] [])) [.t 63]⟩,
      ⟨some 9, none, .mv (.t 64)⟩])
    (.seq (.seq (.ops [⟨some 65, none, .mv (.t 9)⟩,
      ⟨some 66, none, .len (.t 65)⟩,
      ⟨some 67, none, .mv (.k (.i .i64 0))⟩])
    (.block 4 (.loop l0_impl_RunGlobal)))
    (.draw 7 [⟨some 103, none, .fa 0 (.t 8)⟩,
      ⟨some 104, none, .ld (.t 103)⟩,
      ⟨some 105, none, .mv (.t 7)⟩,
      ⟨some 106, none, .nilc (.t 105)⟩,
      ⟨some 107, none, .fa 2 (.t 106)⟩,
      ⟨some 108, none, .ld (.t 107)⟩,
      ⟨some 109, none, .mv (.t 9)⟩,
      ⟨some 110, none, .ia 1 (.t 104) (.t 108)⟩,
      ⟨none, none, .st 1 (.t 110) (.t 109)⟩])))))))
    (.ops [⟨some 35, none, .mv (.t 7)⟩,
      ⟨some 36, none, .nilc (.t 35)⟩,
      ⟨some 37, none, .fa 2 (.t 36)⟩,
      ⟨some 38, none, .ld (.t 37)⟩,
      ⟨some 39, none, .bin .add (.t 38) (.k (.i .i64 1))⟩,
      ⟨some 40, none, .nilc (.t 35)⟩,
      ⟨some 41, none, .fa 2 (.t 40)⟩,
      ⟨none, none, .st 1 (.t 41) (.t 39)⟩]))
def c_impl_RunGlobal : LC := .seq (.ops [⟨some 4, none, .box ty_sl_impl_Job (.t 1)⟩,
      ⟨some 6, none, .alloc ty_impl_GlobalRun [.sn, .sn]⟩])
    (.seq (.seq (.ops [⟨some 13, none, .mv (.t 0)⟩,
      ⟨some 14, none, .ld (.t 4)⟩,
      ⟨some 15, none, .call (.k (.fn n_impl_JobsLegal [] [])) [.t 13, .t 14]⟩,
      ⟨some 16, none, .not (.t 15)⟩,
      ⟨some 17, none, .mv (.t 16)⟩,
      ⟨some 18, (some (17, false)), .mv (.t 2)⟩,
      ⟨some 19, (some (17, false)), .call (.k (.fn n_impl_isCores [] [])) [.t 18]⟩,
      ⟨some 20, (some (17, false)), .not (.t 19)⟩,
      ⟨some 21, none, .pick (.t 17) (.k (.b true)) (.t 20)⟩])
    (.cond (.t 21) (.seq (.ops [⟨some 22, none, .build [.sn, .sn] []⟩,
      ⟨none, none, .st 2 (.t 6) (.t 22)⟩])
    (.ret))
    (.skip)))
    (.seq (.ops [⟨some 23, none, .ld (.t 4)⟩,
      ⟨some 24, none, .call (.k (.fn n_impl_newMachine [] [])) [.t 23]⟩,
      ⟨some 7, none, .mv (.t 24)⟩])
    (.join (.plan [1, 2] [⟨some 26, none, .ld (.t 4)⟩,
      ⟨some 27, none, .len (.t 26)⟩]
      (.alt (.one 0 ⟨some 25, none, .msl ty_sl_int 24 [.sn] (.k (.i .i64 120))⟩ [(26, none, 4)] []
        []
      (.alt (.one 3 ⟨some 28, none, .call (.k (.fn n_impl_none [] [])) [.t 27]⟩ [(26, none, 4)] [4]
        [⟨some 29, none, .build [.sn, .sn] [(0, 1, .t 25), (1, 1, .t 28)]⟩]
      (.one 5 ⟨some 8, none, .alloc ty_impl_GlobalRun [.sn, .sn]⟩ [(26, none, 4)] []
        []
      (.one 6 ⟨none, none, .st 2 (.t 8) (.t 29)⟩ [] []
        []
      .fin))) (.one 5 ⟨some 8, none, .alloc ty_impl_GlobalRun [.sn, .sn]⟩ [(26, none, 4)] []
        []
      (.one 3 ⟨some 28, none, .call (.k (.fn n_impl_none [] [])) [.t 27]⟩ [(26, none, 4)] [4]
        [⟨some 29, none, .build [.sn, .sn] [(0, 1, .t 25), (1, 1, .t 28)]⟩]
      (.one 6 ⟨none, none, .st 2 (.t 8) (.t 29)⟩ [] []
        []
      .fin))))) (.alt (.one 3 ⟨some 28, none, .call (.k (.fn n_impl_none [] [])) [.t 27]⟩ [(26, none, 4)] []
        []
      (.alt (.one 0 ⟨some 25, none, .msl ty_sl_int 24 [.sn] (.k (.i .i64 120))⟩ [(26, none, 4)] [4]
        [⟨some 29, none, .build [.sn, .sn] [(0, 1, .t 25), (1, 1, .t 28)]⟩]
      (.one 5 ⟨some 8, none, .alloc ty_impl_GlobalRun [.sn, .sn]⟩ [(26, none, 4)] []
        []
      (.one 6 ⟨none, none, .st 2 (.t 8) (.t 29)⟩ [] []
        []
      .fin))) (.one 5 ⟨some 8, none, .alloc ty_impl_GlobalRun [.sn, .sn]⟩ [(26, none, 4)] []
        []
      (.one 0 ⟨some 25, none, .msl ty_sl_int 24 [.sn] (.k (.i .i64 120))⟩ [(26, none, 4)] [4]
        [⟨some 29, none, .build [.sn, .sn] [(0, 1, .t 25), (1, 1, .t 28)]⟩]
      (.one 6 ⟨none, none, .st 2 (.t 8) (.t 29)⟩ [] []
        []
      .fin))))) (.one 5 ⟨some 8, none, .alloc ty_impl_GlobalRun [.sn, .sn]⟩ [(26, none, 4)] []
        []
      (.alt (.one 0 ⟨some 25, none, .msl ty_sl_int 24 [.sn] (.k (.i .i64 120))⟩ [(26, none, 4)] []
        []
      (.one 3 ⟨some 28, none, .call (.k (.fn n_impl_none [] [])) [.t 27]⟩ [(26, none, 4)] [4]
        [⟨some 29, none, .build [.sn, .sn] [(0, 1, .t 25), (1, 1, .t 28)]⟩]
      (.one 6 ⟨none, none, .st 2 (.t 8) (.t 29)⟩ [] []
        []
      .fin))) (.one 3 ⟨some 28, none, .call (.k (.fn n_impl_none [] [])) [.t 27]⟩ [(26, none, 4)] []
        []
      (.one 0 ⟨some 25, none, .msl ty_sl_int 24 [.sn] (.k (.i .i64 120))⟩ [(26, none, 4)] [4]
        [⟨some 29, none, .build [.sn, .sn] [(0, 1, .t 25), (1, 1, .t 28)]⟩]
      (.one 6 ⟨none, none, .st 2 (.t 8) (.t 29)⟩ [] []
        []
      .fin))))))))
    (.seq (.block 0 (.loop l2_impl_RunGlobal))
    (.seq (.ops [⟨some 111, none, .ldn 2 (.t 8)⟩,
      ⟨none, none, .st 2 (.t 6) (.t 111)⟩])
    (.ret))))))
theorem k_impl_RunGlobal : chkF Try.prog Try.f34 112 c_impl_RunGlobal [.c 6 (some 2)] = true := by kernel_rfl
theorem call_impl_RunGlobal {args : List AV} {σ : List AB} {K : AV → List AB → Prop} (hn : args.length ≤ 112) (hw : wpC Try.prog σ.length 112 c_impl_RunGlobal (retP σ.length [.c 6 (some 2)] K) ⟨initT 0 args, σ⟩) : CallWp Try.prog n_impl_RunGlobal args σ K := call_fn mixed Try.func34 k_impl_RunGlobal hn hw
def c_spec_DrawRunEdf : LC := .seq (.ops [⟨some 2, none, .mv (.k (.sn))⟩,
      ⟨some 3, none, .mv (.k (.sn))⟩])
    (.seq (.ops [⟨some 6, none, .mv (.t 0)⟩,
      ⟨some 7, none, .call (.k (.fn n_spec_l20Open [] [])) [.t 6]⟩,
      ⟨some 4, none, .mv (.t 7)⟩])
    (.seq (.ops [⟨some 8, none, .mv (.t 4)⟩,
      ⟨some 9, none, .call (.k (.fn n_spec_l20Set [] [])) [.t 8, .k (.i .i64 20)]⟩,
      ⟨some 5, none, .mv (.t 9)⟩])
    (.seq (.seq (.ops [⟨some 10, none, .mv (.t 5)⟩,
      ⟨some 11, none, .call (.k (.fn n_spec_SetValid [] [])) [.t 10]⟩,
      ⟨some 12, none, .not (.t 11)⟩])
    (.cond (.t 12) (.seq (.ops [⟨some 13, none, .mv (.t 5)⟩,
      ⟨some 14, none, .bsl ty_impl_Job [.i .i64 0, .i .i64 0, .i .i64 0, .i .i64 0] 0 []⟩,
      ⟨some 2, none, .mv (.t 13)⟩,
      ⟨some 3, none, .mv (.t 14)⟩])
    (.ret))
    (.skip)))
    (.seq (.ops [⟨some 15, none, .mv (.t 5)⟩,
      ⟨some 16, none, .mv (.t 4)⟩,
      ⟨some 17, none, .mv (.t 5)⟩,
      ⟨some 18, none, .call (.k (.fn n_spec_l20Jobs [] [])) [.t 16, .t 17, .k (.i .i64 16)]⟩,
      ⟨some 2, none, .mv (.t 15)⟩,
      ⟨some 3, none, .mv (.t 18)⟩])
    (.ret)))))
theorem k_spec_DrawRunEdf : chkF Try.prog Try.f38 19 c_spec_DrawRunEdf [.t 2, .t 3] = true := by kernel_rfl
theorem call_spec_DrawRunEdf {args : List AV} {σ : List AB} {K : AV → List AB → Prop} (hn : args.length ≤ 19) (hw : wpC Try.prog σ.length 19 c_spec_DrawRunEdf (retP σ.length [.t 2, .t 3] K) ⟨initT 0 args, σ⟩) : CallWp Try.prog n_spec_DrawRunEdf args σ K := call_fn mixed Try.func38 k_spec_DrawRunEdf hn hw
def c_laws_sameSchedule : LC := .seq (.ops [⟨some 2, none, .box ty_impl_Schedule (.t 0)⟩,
      ⟨some 3, none, .box ty_impl_Schedule (.t 1)⟩,
      ⟨some 4, none, .mv (.k (.b false))⟩])
    (.seq (.ops [⟨some 5, none, .fa 0 (.t 2)⟩,
      ⟨some 6, none, .ld (.t 5)⟩,
      ⟨some 7, none, .fa 0 (.t 3)⟩,
      ⟨some 8, none, .ld (.t 7)⟩,
      ⟨some 9, none, .call (.k (.fn n_laws_sameInts [] [])) [.t 6, .t 8]⟩,
      ⟨some 10, none, .mv (.t 9)⟩,
      ⟨some 11, (some (10, true)), .fa 1 (.t 2)⟩,
      ⟨some 12, (some (10, true)), .ld (.t 11)⟩,
      ⟨some 13, (some (10, true)), .fa 1 (.t 3)⟩,
      ⟨some 14, (some (10, true)), .ld (.t 13)⟩,
      ⟨some 15, (some (10, true)), .call (.k (.fn n_laws_sameInts [] [])) [.t 12, .t 14]⟩,
      ⟨some 16, none, .pick (.t 10) (.t 15) (.k (.b false))⟩,
      ⟨some 4, none, .mv (.t 16)⟩])
    (.ret))
theorem k_laws_sameSchedule : chkF Try.prog Try.f39 17 c_laws_sameSchedule [.t 4] = true := by kernel_rfl
theorem callC_laws_sameSchedule {args : List AV} {σ : List AB} {K : AV → List AB → Prop} (hn : args.length ≤ 17) (hw : Closed σ → args.all (below1 σ.length) = true → wpC Try.prog σ.length 17 c_laws_sameSchedule (retP σ.length [.t 4] K) ⟨initT 0 args, σ⟩) : CallWp Try.prog n_laws_sameSchedule args σ K := call_fnC mixed Try.func39 k_laws_sameSchedule hn hw
def c_spec_RunEdf : LC := .seq (.ops [⟨some 4, none, .alloc ty_impl_Schedule [.sn, .sn]⟩])
    (.seq (.seq (.ops [⟨some 5, none, .mv (.t 0)⟩,
      ⟨some 6, none, .mv (.t 1)⟩,
      ⟨some 7, none, .call (.k (.fn n_spec_JobsLegal [] [])) [.t 5, .t 6]⟩,
      ⟨some 8, none, .not (.t 7)⟩])
    (.cond (.t 8) (.seq (.ops [⟨some 9, none, .build [.sn, .sn] []⟩,
      ⟨none, none, .st 2 (.t 4) (.t 9)⟩])
    (.ret))
    (.skip)))
    (.seq (.ops [⟨some 10, none, .mv (.t 1)⟩,
      ⟨some 11, none, .mv (.t 1)⟩,
      ⟨some 12, none, .call (.k (.fn n_spec_l3Deadlines [] [])) [.t 11]⟩,
      ⟨some 13, none, .call (.k (.fn n_spec_l3Run [] [])) [.t 10, .t 12]⟩,
      ⟨none, none, .st 2 (.t 4) (.t 13)⟩])
    (.ret)))
theorem k_spec_RunEdf : chkF Try.prog Try.f40 14 c_spec_RunEdf [.c 4 (some 2)] = true := by kernel_rfl
theorem call_spec_RunEdf {args : List AV} {σ : List AB} {K : AV → List AB → Prop} (hn : args.length ≤ 14) (hw : wpC Try.prog σ.length 14 c_spec_RunEdf (retP σ.length [.c 4 (some 2)] K) ⟨initT 0 args, σ⟩) : CallWp Try.prog n_spec_RunEdf args σ K := call_fn mixed Try.func40 k_spec_RunEdf hn hw
def c_spec_l20Open : LC := .seq (.ops [⟨some 2, none, .mv (.k (.pn))⟩])
    (.join (.seq (.ops [⟨some 3, none, .mv (.t 0)⟩,
      ⟨some 4, none, .len (.t 3)⟩,
      ⟨some 5, none, .bin .gtr (.t 4) (.k (.i .i64 2000))⟩])
    (.cond (.t 5) (.ops [⟨some 6, none, .mv (.t 0)⟩,
      ⟨some 7, none, .slc 1 (.t 6) none (some (.k (.i .i64 2000))) none⟩,
      ⟨some 0, none, .mv (.t 7)⟩])
    (.skip)))
    (.seq (.ops [⟨some 8, none, .mv (.t 0)⟩,
      ⟨some 9, none, .build [.sn, .i .i64 0] [(0, 1, .t 8)]⟩,
      ⟨some 10, none, .box ty_spec_l20Rd (.t 9)⟩,
      ⟨some 2, none, .mv (.t 10)⟩])
    (.ret)))
theorem k_spec_l20Open : chkF Try.prog Try.f43 11 c_spec_l20Open [.t 2] = true := by kernel_rfl
theorem call_spec_l20Open {args : List AV} {σ : List AB} {K : AV → List AB → Prop} (hn : args.length ≤ 11) (hw : wpC Try.prog σ.length 11 c_spec_l20Open (retP σ.length [.t 2] K) ⟨initT 0 args, σ⟩) : CallWp Try.prog n_spec_l20Open args σ K := call_fn mixed Try.func43 k_spec_l20Open hn hw
def l0_impl_simulate : LC := .seq (.seq (.ops [⟨some 15, none, .mv (.t 5)⟩,
      ⟨some 16, none, .nilc (.t 15)⟩,
      ⟨some 17, none, .fa 2 (.t 16)⟩,
      ⟨some 18, none, .ld (.t 17)⟩,
      ⟨some 19, none, .bin .lss (.t 18) (.k (.i .i64 120))⟩])
    (.cond (.t 19) (.skip)
    (.exit 0)))
    (.seq (.block 1 (.seq (.ops [⟨some 27, none, .mv (.t 1)⟩,
      ⟨some 28, none, .mv (.t 5)⟩,
      ⟨some 29, none, .call (.t 27) [.t 28]⟩,
      ⟨some 7, none, .mv (.t 29)⟩])
    (.seq (.draw 7 [⟨some 30, none, .fa 0 (.t 6)⟩,
      ⟨some 31, none, .ld (.t 30)⟩,
      ⟨some 32, none, .mv (.t 5)⟩,
      ⟨some 33, none, .nilc (.t 32)⟩,
      ⟨some 34, none, .fa 2 (.t 33)⟩,
      ⟨some 35, none, .ld (.t 34)⟩,
      ⟨some 36, none, .mv (.t 7)⟩,
      ⟨some 37, none, .ia 1 (.t 31) (.t 35)⟩,
      ⟨none, none, .st 1 (.t 37) (.t 36)⟩])
    (.seq (.seq (.ops [⟨some 38, none, .mv (.t 7)⟩,
      ⟨some 39, none, .bin .lss (.t 38) (.k (.i .i64 0))⟩])
    (.cond (.t 39) (.exit 1)
    (.skip)))
    (.seq (.ops [⟨some 40, none, .mv (.t 5)⟩,
      ⟨some 41, none, .nilc (.t 40)⟩,
      ⟨some 42, none, .fa 1 (.t 41)⟩,
      ⟨some 43, none, .ld (.t 42)⟩,
      ⟨some 44, none, .mv (.t 7)⟩,
      ⟨some 45, none, .ia 1 (.t 43) (.t 44)⟩,
      ⟨some 46, none, .ld (.t 45)⟩,
      ⟨some 47, none, .bin .add (.t 46) (.k (.i .i64 1))⟩,
      ⟨some 48, none, .ia 1 (.t 43) (.t 44)⟩,
      ⟨none, none, .st 1 (.t 48) (.t 47)⟩])
    (.seq (.draw 13 [⟨some 49, none, .mv (.t 5)⟩,
      ⟨some 50, none, .nilc (.t 49)⟩,
      ⟨some 51, none, .fa 1 (.t 50)⟩,
      ⟨some 52, none, .ld (.t 51)⟩,
      ⟨some 53, none, .mv (.t 7)⟩,
      ⟨some 54, none, .ia 1 (.t 52) (.t 53)⟩,
      ⟨some 55, none, .ld (.t 54)⟩,
      ⟨some 56, none, .mv (.t 0)⟩,
      ⟨some 57, none, .mv (.t 7)⟩,
      ⟨some 58, none, .ia 4 (.t 56) (.t 57)⟩,
      ⟨some 59, none, .fa 3 (.t 58)⟩,
      ⟨some 60, none, .ld (.t 59)⟩,
      ⟨some 61, none, .bin .eql (.t 55) (.t 60)⟩])
    (.cond (.t 61) (.draw 8 [⟨some 62, none, .fa 1 (.t 6)⟩,
      ⟨some 63, none, .ld (.t 62)⟩,
      ⟨some 64, none, .mv (.t 7)⟩,
      ⟨some 65, none, .mv (.t 5)⟩,
      ⟨some 66, none, .nilc (.t 65)⟩,
      ⟨some 67, none, .fa 2 (.t 66)⟩,
      ⟨some 68, none, .ld (.t 67)⟩,
      ⟨some 69, none, .bin .add (.t 68) (.k (.i .i64 1))⟩,
      ⟨some 70, none, .ia 1 (.t 63) (.t 64)⟩,
      ⟨none, none, .st 1 (.t 70) (.t 69)⟩])
    (.skip))))))))
    (.ops [⟨some 20, none, .mv (.t 5)⟩,
      ⟨some 21, none, .nilc (.t 20)⟩,
      ⟨some 22, none, .fa 2 (.t 21)⟩,
      ⟨some 23, none, .ld (.t 22)⟩,
      ⟨some 24, none, .bin .add (.t 23) (.k (.i .i64 1))⟩,
      ⟨some 25, none, .nilc (.t 20)⟩,
      ⟨some 26, none, .fa 2 (.t 25)⟩,
      ⟨none, none, .st 1 (.t 26) (.t 24)⟩]))
def c_impl_simulate : LC := .seq (.ops [⟨some 4, none, .alloc ty_impl_Schedule [.sn, .sn]⟩])
    (.seq (.ops [⟨some 8, none, .mv (.t 0)⟩,
      ⟨some 9, none, .call (.k (.fn n_impl_newMachine [] [])) [.t 8]⟩,
      ⟨some 5, none, .mv (.t 9)⟩])
    (.seq (.ops [⟨some 10, none, .call (.k (.fn n_impl_none [] [])) [.k (.i .i64 120)]⟩,
      ⟨some 11, none, .mv (.t 0)⟩,
      ⟨some 12, none, .len (.t 11)⟩,
      ⟨some 13, none, .call (.k (.fn n_impl_none [] [])) [.t 12]⟩,
      ⟨some 14, none, .build [.sn, .sn] [(0, 1, .t 10), (1, 1, .t 13)]⟩,
      ⟨some 6, none, .alloc ty_impl_Schedule [.sn, .sn]⟩,
      ⟨none, none, .st 2 (.t 6) (.t 14)⟩])
    (.seq (.block 0 (.loop l0_impl_simulate))
    (.seq (.ops [⟨some 71, none, .ldn 2 (.t 6)⟩,
      ⟨none, none, .st 2 (.t 4) (.t 71)⟩])
    (.ret)))))
theorem k_impl_simulate : chkF Try.prog Try.f49 72 c_impl_simulate [.c 4 (some 2)] = true := by kernel_rfl
theorem callC_impl_simulate {args : List AV} {σ : List AB} {K : AV → List AB → Prop} (hn : args.length ≤ 72) (hw : Closed σ → args.all (below1 σ.length) = true → wpC Try.prog σ.length 72 c_impl_simulate (retP σ.length [.c 4 (some 2)] K) ⟨initT 0 args, σ⟩) : CallWp Try.prog n_impl_simulate args σ K := call_fnC mixed Try.func49 k_impl_simulate hn hw
end Go.Proofs.Ytmphblbpofnpaaa
