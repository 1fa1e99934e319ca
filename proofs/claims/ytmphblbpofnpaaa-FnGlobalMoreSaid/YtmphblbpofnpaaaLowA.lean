import Derived.Test.YtmphblbpofnpaaaProg
import Derived.Test.YtmphblbpofnpaaaAbsY
import Derived.KernelRfl
namespace Go.Proofs.Ytmphblbpofnpaaa
open Go.Abs
set_option maxRecDepth 100000
theorem mixed : Try.prog.follows .mixedOrders = true := by kernel_rfl
abbrev n_laws_FnGlobalMore : Nat := 10
abbrev n_laws_alive : Nat := 16
abbrev n_laws_sameInts : Nat := 21
abbrev n_spec_DrawRunGlobal : Nat := 33
abbrev n_impl_RunGlobal : Nat := 34
abbrev n_laws_sameGlobal : Nat := 35
abbrev n_spec_RunGlobal : Nat := 36
abbrev n_impl_DensityFeasible : Nat := 41
abbrev n_impl_GlobalMissed : Nat := 42
abbrev n_spec_l20Open : Nat := 43
abbrev n_impl_TaskValid : Nat := 54
abbrev n_impl_missed : Nat := 55
abbrev n_impl_JobsLegal : Nat := 56
abbrev n_spec_l20Set : Nat := 65
abbrev n_spec_l20Cores : Nat := 66
abbrev n_spec_SetValid : Nat := 67
abbrev n_spec_l20Jobs : Nat := 68
abbrev n_impl_isCores : Nat := 69
abbrev n_impl_newMachine : Nat := 70
abbrev n_impl_none : Nat := 71
abbrev n_impl_machine_ready : Nat := 72
abbrev n_slices_SortStableFunc_int : Nat := 73
abbrev n_impl_RunGlobal_1 : Nat := 74
abbrev n_cmp_Compare_int : Nat := 75
abbrev n_impl_clone_int : Nat := 76
abbrev n_spec_JobsLegal : Nat := 77
abbrev n_spec_l1In : Nat := 78
abbrev n_spec_l14Pick : Nat := 79
abbrev n_impl_SetValid : Nat := 82
abbrev n_spec_l20Rd_pick : Nat := 83
abbrev n_spec_l20Rd_odd : Nat := 84
abbrev n_impl_ordered : Nat := 87
abbrev n_impl_spaced : Nat := 89
abbrev n_impl_release : Nat := 90
abbrev n_slices_ContainsFunc_impl_Job : Nat := 92
abbrev n_impl_in : Nat := 103
abbrev n_slices_Clip_int : Nat := 104
abbrev n_impl_JobsLegal_1 : Nat := 105
abbrev n_impl_JobsLegal_2 : Nat := 106
abbrev n_impl_JobsLegal_3 : Nat := 107
abbrev n_spec_l20Task : Nat := 109
abbrev n_spec_TaskValid : Nat := 110
abbrev n_slices_Repeat_int : Nat := 111
abbrev n_slices_stableCmpFunc_int : Nat := 112
abbrev n_cmp_isNaN_int : Nat := 113
abbrev n_slices_Clone_int : Nat := 114
abbrev n_spec_l4Index : Nat := 115
abbrev n_slices_ContainsFunc_impl_Task : Nat := 117
abbrev n_impl_SetValid_1 : Nat := 118
abbrev n_slices_IndexFunc_impl_Job : Nat := 122
abbrev n_math_bits_Mul : Nat := 123
abbrev n_slices_insertionSortCmpFunc_int : Nat := 124
abbrev n_slices_symMergeCmpFunc_int : Nat := 125
abbrev n_slices_IndexFunc_impl_Task : Nat := 126
abbrev n_math_bits_Mul32 : Nat := 128
abbrev n_math_bits_Mul64 : Nat := 129
abbrev n_slices_rotateCmpFunc_int : Nat := 130
abbrev n_slices_swapRangeCmpFunc_int : Nat := 131
abbrev ty_int : Nat := 3
abbrev ty_sl_impl_Job : Nat := 24
abbrev ty_sl_int : Nat := 27
abbrev ty_impl_Job : Nat := 36
abbrev ty_sl_impl_Task : Nat := 41
abbrev ty_impl_Task : Nat := 43
abbrev ty_impl_GlobalRun : Nat := 63
abbrev ty_impl_machine : Nat := 106
abbrev ty_spec_l20Rd : Nat := 115
def c_laws_FnGlobalMore : LC := .seq (.ops [⟨some 2, none, .mv (.k (.b false))⟩])
    (.seq (.seq (.ops [⟨some 7, none, .mv (.t 0)⟩,
      ⟨some 8, none, .len (.t 7)⟩,
      ⟨some 9, none, .bin .gtr (.t 8) (.k (.i .i64 1048576))⟩])
    (.cond (.t 9) (.seq (.ops [⟨some 2, none, .mv (.k (.b true))⟩])
    (.ret))
    (.skip)))
    (.seq (.ops [⟨some 11, none, .mv (.t 0)⟩,
      ⟨some 12, none, .call (.k (.fn n_spec_DrawRunGlobal [] [])) [.t 11]⟩,
      ⟨some 10, none, .mv (.t 12)⟩,
      ⟨some 13, none, .ext 0 (.t 10)⟩,
      ⟨some 14, none, .ext 1 (.t 10)⟩,
      ⟨some 15, none, .ext 2 (.t 10)⟩,
      ⟨some 3, none, .mv (.t 13)⟩,
      ⟨some 4, none, .mv (.t 14)⟩,
      ⟨some 5, none, .mv (.t 15)⟩])
    (.seq (.ops [⟨some 16, none, .mv (.t 3)⟩,
      ⟨some 17, none, .mv (.t 4)⟩,
      ⟨some 18, none, .mv (.t 5)⟩,
      ⟨some 19, none, .call (.k (.fn n_impl_RunGlobal [] [])) [.t 16, .t 17, .t 18]⟩,
      ⟨some 6, none, .alloc ty_impl_GlobalRun [.sn, .sn]⟩,
      ⟨none, none, .st 2 (.t 6) (.t 19)⟩])
    (.seq (.seq (.plan [0, 1, 2, 3] [⟨some 20, none, .ldn 2 (.t 6)⟩,
      ⟨some 21, none, .mv (.t 3)⟩,
      ⟨some 22, none, .mv (.t 4)⟩,
      ⟨some 23, none, .mv (.t 5)⟩]
      (.one 4 ⟨some 24, none, .call (.k (.fn n_spec_RunGlobal [] [])) [.t 21, .t 22, .t 23]⟩ [(20, some 2, 6)] []
        []
      (.one 5 ⟨some 25, none, .call (.k (.fn n_laws_sameGlobal [] [])) [.t 20, .t 24]⟩ [] [6]
        [⟨some 26, none, .not (.t 25)⟩]
      .fin)))
    (.cond (.t 26) (.seq (.ops [⟨some 2, none, .mv (.k (.b false))⟩])
    (.ret))
    (.skip)))
    (.seq (.seq (.ops [⟨some 27, none, .fa 0 (.t 6)⟩,
      ⟨some 28, none, .ld (.t 27)⟩,
      ⟨some 29, none, .len (.t 28)⟩,
      ⟨some 30, none, .bin .neq (.t 29) (.k (.i .i64 120))⟩,
      ⟨some 31, none, .mv (.t 30)⟩,
      ⟨some 32, (some (31, false)), .mv (.t 5)⟩,
      ⟨some 33, (some (31, false)), .bin .eql (.t 32) (.k (.i .i64 5))⟩,
      ⟨some 34, none, .pick (.t 31) (.k (.b true)) (.t 33)⟩,
      ⟨some 35, none, .mv (.t 34)⟩,
      ⟨some 36, (some (35, false)), .mv (.t 3)⟩,
      ⟨some 37, (some (35, false)), .mv (.t 5)⟩,
      ⟨some 38, (some (35, false)), .call (.k (.fn n_impl_DensityFeasible [] [])) [.t 36, .t 37]⟩,
      ⟨some 39, (some (35, false)), .not (.t 38)⟩,
      ⟨some 40, none, .pick (.t 35) (.k (.b true)) (.t 39)⟩])
    (.cond (.t 40) (.seq (.ops [⟨some 41, none, .call (.k (.fn n_laws_alive [] [])) []⟩,
      ⟨some 2, none, .mv (.t 41)⟩])
    (.ret))
    (.skip)))
    (.seq (.ops [⟨some 42, none, .mv (.t 4)⟩,
      ⟨some 43, none, .mv (.t 3)⟩,
      ⟨some 44, none, .mv (.t 4)⟩,
      ⟨some 45, none, .mv (.t 5)⟩,
      ⟨some 46, none, .bin .add (.t 45) (.k (.i .i64 1))⟩,
      ⟨some 47, none, .call (.k (.fn n_impl_RunGlobal [] [])) [.t 43, .t 44, .t 46]⟩,
      ⟨some 48, none, .call (.k (.fn n_impl_GlobalMissed [] [])) [.t 42, .t 47]⟩,
      ⟨some 49, none, .len (.t 48)⟩,
      ⟨some 50, none, .bin .eql (.t 49) (.k (.i .i64 0))⟩,
      ⟨some 2, none, .mv (.t 50)⟩])
    (.ret)))))))
theorem k_laws_FnGlobalMore : chkF Try.prog Try.f10 51 c_laws_FnGlobalMore [.t 2] = true := by kernel_rfl
theorem call_laws_FnGlobalMore {args : List AV} {σ : List AB} {K : AV → List AB → Prop} (hn : args.length ≤ 51) (hw : wpC Try.prog σ.length 51 c_laws_FnGlobalMore (retP σ.length [.t 2] K) ⟨initT 0 args, σ⟩) : CallWp Try.prog n_laws_FnGlobalMore args σ K := call_fn mixed Try.func10 k_laws_FnGlobalMore hn hw
def c_laws_alive : LC := .seq (.ops [⟨some 0, none, .mv (.k (.b false))⟩])
    (.seq (.ops [⟨some 1, none, .build [.i .i64 0, .i .i64 0, .i .i64 0] [(0, 1, .k (.i .i64 1)), (1, 1, .k (.i .i64 1)), (2, 1, .k (.i .i64 1))]⟩,
      ⟨some 2, none, .call (.k (.fn n_impl_TaskValid [] [])) [.t 1]⟩,
      ⟨some 0, none, .mv (.t 2)⟩])
    (.ret))
theorem k_laws_alive : chkF Try.prog Try.f16 3 c_laws_alive [.t 0] = true := by kernel_rfl
theorem call_laws_alive {args : List AV} {σ : List AB} {K : AV → List AB → Prop} (hn : args.length ≤ 3) (hw : wpC Try.prog σ.length 3 c_laws_alive (retP σ.length [.t 0] K) ⟨initT 0 args, σ⟩) : CallWp Try.prog n_laws_alive args σ K := call_fn mixed Try.func16 k_laws_alive hn hw
def l0_laws_sameInts : LC := .seq (.seq (.ops [⟨some 11, none, .mv (.t 5)⟩,
      ⟨some 12, none, .mv (.t 0)⟩,
      ⟨some 13, none, .len (.t 12)⟩,
      ⟨some 14, none, .bin .lss (.t 11) (.t 13)⟩])
    (.cond (.t 14) (.skip)
    (.exit 0)))
    (.seq (.block 1 (.seq (.draw 9 [⟨some 17, none, .mv (.t 0)⟩,
      ⟨some 18, none, .mv (.t 5)⟩,
      ⟨some 19, none, .ia 1 (.t 17) (.t 18)⟩,
      ⟨some 20, none, .ld (.t 19)⟩,
      ⟨some 21, none, .mv (.t 1)⟩,
      ⟨some 22, none, .mv (.t 5)⟩,
      ⟨some 23, none, .ia 1 (.t 21) (.t 22)⟩,
      ⟨some 24, none, .ld (.t 23)⟩,
      ⟨some 25, none, .bin .neq (.t 20) (.t 24)⟩])
    (.cond (.t 25) (.seq (.ops [⟨some 4, none, .mv (.k (.b false))⟩])
    (.ret))
    (.skip))))
    (.ops [⟨some 15, none, .mv (.t 5)⟩,
      ⟨some 16, none, .bin .add (.t 15) (.k (.i .i64 1))⟩,
      ⟨some 5, none, .mv (.t 16)⟩]))
def c_laws_sameInts : LC := .seq (.ops [⟨some 4, none, .mv (.k (.b false))⟩])
    (.seq (.seq (.ops [⟨some 6, none, .mv (.t 0)⟩,
      ⟨some 7, none, .len (.t 6)⟩,
      ⟨some 8, none, .mv (.t 1)⟩,
      ⟨some 9, none, .len (.t 8)⟩,
      ⟨some 10, none, .bin .neq (.t 7) (.t 9)⟩])
    (.cond (.t 10) (.seq (.ops [⟨some 4, none, .mv (.k (.b false))⟩])
    (.ret))
    (.skip)))
    (.seq (.seq (.ops [⟨some 5, none, .mv (.k (.i .i64 0))⟩])
    (.block 0 (.loop l0_laws_sameInts)))
    (.seq (.ops [⟨some 4, none, .mv (.k (.b true))⟩])
    (.ret))))
theorem k_laws_sameInts : chkF Try.prog Try.f21 26 c_laws_sameInts [.t 4] = true := by kernel_rfl
theorem call_laws_sameInts {args : List AV} {σ : List AB} {K : AV → List AB → Prop} (hn : args.length ≤ 26) (hw : wpC Try.prog σ.length 26 c_laws_sameInts (retP σ.length [.t 4] K) ⟨initT 0 args, σ⟩) : CallWp Try.prog n_laws_sameInts args σ K := call_fn mixed Try.func21 k_laws_sameInts hn hw
def c_spec_DrawRunGlobal : LC := .seq (.ops [⟨some 2, none, .mv (.k (.sn))⟩,
      ⟨some 3, none, .mv (.k (.sn))⟩,
      ⟨some 4, none, .mv (.k (.i .i64 0))⟩])
    (.seq (.ops [⟨some 8, none, .mv (.t 0)⟩,
      ⟨some 9, none, .call (.k (.fn n_spec_l20Open [] [])) [.t 8]⟩,
      ⟨some 5, none, .mv (.t 9)⟩])
    (.seq (.ops [⟨some 10, none, .mv (.t 5)⟩,
      ⟨some 11, none, .call (.k (.fn n_spec_l20Set [] [])) [.t 10, .k (.i .i64 20)]⟩,
      ⟨some 6, none, .mv (.t 11)⟩])
    (.seq (.ops [⟨some 12, none, .mv (.t 5)⟩,
      ⟨some 13, none, .call (.k (.fn n_spec_l20Cores [] [])) [.t 12, .k (.i .i64 16)]⟩,
      ⟨some 7, none, .mv (.t 13)⟩])
    (.seq (.seq (.ops [⟨some 14, none, .mv (.t 6)⟩,
      ⟨some 15, none, .call (.k (.fn n_spec_SetValid [] [])) [.t 14]⟩,
      ⟨some 16, none, .not (.t 15)⟩])
    (.cond (.t 16) (.seq (.ops [⟨some 17, none, .mv (.t 6)⟩,
      ⟨some 18, none, .bsl ty_impl_Job [.i .i64 0, .i .i64 0, .i .i64 0, .i .i64 0] 0 []⟩,
      ⟨some 19, none, .mv (.t 7)⟩,
      ⟨some 2, none, .mv (.t 17)⟩,
      ⟨some 3, none, .mv (.t 18)⟩,
      ⟨some 4, none, .mv (.t 19)⟩])
    (.ret))
    (.skip)))
    (.seq (.ops [⟨some 20, none, .mv (.t 6)⟩,
      ⟨some 21, none, .mv (.t 5)⟩,
      ⟨some 22, none, .mv (.t 6)⟩,
      ⟨some 23, none, .call (.k (.fn n_spec_l20Jobs [] [])) [.t 21, .t 22, .k (.i .i64 16)]⟩,
      ⟨some 24, none, .mv (.t 7)⟩,
      ⟨some 2, none, .mv (.t 20)⟩,
      ⟨some 3, none, .mv (.t 23)⟩,
      ⟨some 4, none, .mv (.t 24)⟩])
    (.ret))))))
theorem k_spec_DrawRunGlobal : chkF Try.prog Try.f33 25 c_spec_DrawRunGlobal [.t 2, .t 3, .t 4] = true := by kernel_rfl
theorem call_spec_DrawRunGlobal {args : List AV} {σ : List AB} {K : AV → List AB → Prop} (hn : args.length ≤ 25) (hw : wpC Try.prog σ.length 25 c_spec_DrawRunGlobal (retP σ.length [.t 2, .t 3, .t 4] K) ⟨initT 0 args, σ⟩) : CallWp Try.prog n_spec_DrawRunGlobal args σ K := call_fn mixed Try.func33 k_spec_DrawRunGlobal hn hw
def l0_impl_RunGlobal : LC := .seq (.ops [⟨some 68, none, .bin .lss (.t 67) (.t 66)⟩])
    (.seq (.cond (.t 68) (.skip)
    (.exit 4))
    (.seq (.block 5 (.seq (.ops [⟨some 69, none, .ia 1 (.t 65) (.t 67)⟩,
      ⟨some 70, none, .ld (.t 69)⟩,
      ⟨some 12, none, .mv (.t 70)⟩])
    (.seq (.ops [⟨some 71, none, .mv (.t 7)⟩,
      ⟨some 72, none, .nilc (.t 71)⟩,
      ⟨some 73, none, .fa 1 (.t 72)⟩,
      ⟨some 74, none, .ld (.t 73)⟩,
      ⟨some 75, none, .mv (.t 12)⟩,
      ⟨some 76, none, .ia 1 (.t 74) (.t 75)⟩,
      ⟨some 77, none, .ld (.t 76)⟩,
      ⟨some 78, none, .bin .add (.t 77) (.k (.i .i64 1))⟩,
      ⟨some 79, none, .ia 1 (.t 74) (.t 75)⟩,
      ⟨none, none, .st 1 (.t 79) (.t 78)⟩])
    (.seq (.draw 13 [⟨some 80, none, .mv (.t 7)⟩,
      ⟨some 81, none, .nilc (.t 80)⟩,
      ⟨some 82, none, .fa 1 (.t 81)⟩,
      ⟨some 83, none, .ld (.t 82)⟩,
      ⟨some 84, none, .mv (.t 12)⟩,
      ⟨some 85, none, .ia 1 (.t 83) (.t 84)⟩,
      ⟨some 86, none, .ld (.t 85)⟩,
      ⟨some 87, none, .ld (.t 4)⟩,
      ⟨some 88, none, .mv (.t 12)⟩,
      ⟨some 89, none, .ia 4 (.t 87) (.t 88)⟩,
      ⟨some 90, none, .fa 3 (.t 89)⟩,
      ⟨some 91, none, .ld (.t 90)⟩,
      ⟨some 92, none, .bin .eql (.t 86) (.t 91)⟩])
    (.cond (.t 92) (.draw 8 [⟨some 93, none, .fa 1 (.t 8)⟩,
      ⟨some 94, none, .ld (.t 93)⟩,
      ⟨some 95, none, .mv (.t 12)⟩,
      ⟨some 96, none, .mv (.t 7)⟩,
      ⟨some 97, none, .nilc (.t 96)⟩,
      ⟨some 98, none, .fa 2 (.t 97)⟩,
      ⟨some 99, none, .ld (.t 98)⟩,
      ⟨some 100, none, .bin .add (.t 99) (.k (.i .i64 1))⟩,
      ⟨some 101, none, .ia 1 (.t 94) (.t 95)⟩,
      ⟨none, none, .st 1 (.t 101) (.t 100)⟩])
    (.skip))))))
    (.ops [⟨some 102, none, .bin .add (.t 67) (.k (.i .i64 1))⟩,
      ⟨some 67, none, .mv (.t 102)⟩])))
def l1_impl_RunGlobal : LC := .seq (.ops [⟨some 45, none, .bin .lss (.t 44) (.t 43)⟩])
    (.seq (.cond (.t 45) (.skip)
    (.exit 2))
    (.seq (.block 3 (.seq (.ops [⟨some 46, none, .mv (.t 44)⟩,
      ⟨some 10, none, .mv (.t 46)⟩])
    (.seq (.ops [⟨some 47, none, .mv (.t 7)⟩,
      ⟨some 48, none, .mv (.t 10)⟩,
      ⟨some 49, none, .call (.k (.fn n_impl_machine_ready [] [])) [.t 47, .t 48]⟩])
    (.cond (.t 49) (.ops [⟨some 50, none, .mv (.t 9)⟩,
      ⟨some 51, none, .mv (.t 10)⟩,
      ⟨some 52, none, .bsl ty_int [.i .i64 0] 1 [(0, 1, .t 51)]⟩,
      ⟨some 53, none, .app ty_int 1 8 (.t 50) (.t 52)⟩,
      ⟨some 9, none, .mv (.t 53)⟩])
    (.skip)))))
    (.ops [⟨some 54, none, .bin .add (.t 44) (.k (.i .i64 1))⟩,
      ⟨some 44, none, .mv (.t 54)⟩])))
def l2_impl_RunGlobal : LC := .seq (.seq (.ops [⟨some 30, none, .mv (.t 7)⟩,
      ⟨some 31, none, .nilc (.t 30)⟩,
      ⟨some 32, none, .fa 2 (.t 31)⟩,
      ⟨some 33, none, .ld (.t 32)⟩,
      ⟨some 34, none, .bin .lss (.t 33) (.k (.i .i64 120))⟩])
    (.cond (.t 34) (.skip)
    (.exit 0)))
    (.seq (.block 1 (.seq (.ops [⟨some 9, none, .mv (.k (.sn))⟩])
    (.seq (.seq (.ops [⟨some 42, none, .ld (.t 4)⟩,
      ⟨some 43, none, .len (.t 42)⟩,
      ⟨some 44, none, .mv (.k (.i .i64 0))⟩])
    (.block 2 (.loop l1_impl_RunGlobal)))
    (.seq (.ops [⟨some 55, none, .mv (.t 9)⟩,
      ⟨some 56, none, .mkf n_impl_RunGlobal_1 [] [.t 4]⟩,
      ⟨some 57, none, .call (.k (.fn n_slices_SortStableFunc_int [] [])) [.t 55, .t 56]⟩])
    (.seq (.ops [⟨some 58, none, .mv (.t 9)⟩,
      ⟨some 59, none, .mv (.t 2)⟩,
      ⟨some 60, none, .mv (.t 9)⟩,
      ⟨some 61, none, .len (.t 60)⟩,
      ⟨some 62, none, .mn (.t 59) (.t 61)⟩,
      ⟨some 63, none, .slc 1 (.t 58) none (some (.t 62)) none⟩,
      ⟨some 64, none, .call (.k (.fn n_impl_clone_int [] [])) [.t 63]⟩,
      ⟨some 9, none, .mv (.t 64)⟩])
    (.seq (.seq (.ops [⟨some 65, none, .mv (.t 9)⟩,
      ⟨some 66, none, .len (.t 65)⟩,
      ⟨some 67, none, .mv (.k (.i .i64 0))⟩])
    (.block 4 (.loop l0_impl_RunGlobal)))
    (.draw 7 [⟨some 103, none, .fa 0 (.t 8)⟩,
      ⟨some 104, none, .ld (.t 103)⟩,
      ⟨some 105, none, .mv (.t 7)⟩,
      ⟨some 106, none, .nilc (.t 105)⟩,
      ⟨some 107, none, .fa 2 (.t 106)⟩,
      ⟨some 108, none, .ld (.t 107)⟩,
      ⟨some 109, none, .mv (.t 9)⟩,
      ⟨some 110, none, .ia 1 (.t 104) (.t 108)⟩,
      ⟨none, none, .st 1 (.t 110) (.t 109)⟩])))))))
    (.ops [⟨some 35, none, .mv (.t 7)⟩,
      ⟨some 36, none, .nilc (.t 35)⟩,
      ⟨some 37, none, .fa 2 (.t 36)⟩,
      ⟨some 38, none, .ld (.t 37)⟩,
      ⟨some 39, none, .bin .add (.t 38) (.k (.i .i64 1))⟩,
      ⟨some 40, none, .nilc (.t 35)⟩,
      ⟨some 41, none, .fa 2 (.t 40)⟩,
      ⟨none, none, .st 1 (.t 41) (.t 39)⟩]))
def c_impl_RunGlobal : LC := .seq (.ops [⟨some 4, none, .box ty_sl_impl_Job (.t 1)⟩,
      ⟨some 6, none, .alloc ty_impl_GlobalRun [.sn, .sn]⟩])
    (.seq (.seq (.ops [⟨some 13, none, .mv (.t 0)⟩,
      ⟨some 14, none, .ld (.t 4)⟩,
      ⟨some 15, none, .call (.k (.fn n_impl_JobsLegal [] [])) [.t 13, .t 14]⟩,
      ⟨some 16, none, .not (.t 15)⟩,
      ⟨some 17, none, .mv (.t 16)⟩,
      ⟨some 18, (some (17, false)), .mv (.t 2)⟩,
      ⟨some 19, (some (17, false)), .call (.k (.fn n_impl_isCores [] [])) [.t 18]⟩,
      ⟨some 20, (some (17, false)), .not (.t 19)⟩,
      ⟨some 21, none, .pick (.t 17) (.k (.b true)) (.t 20)⟩])
    (.cond (.t 21) (.seq (.ops [⟨some 22, none, .build [.sn, .sn] []⟩,
      ⟨none, none, .st 2 (.t 6) (.t 22)⟩])
    (.ret))
    (.skip)))
    (.seq (.ops [⟨some 23, none, .ld (.t 4)⟩,
      ⟨some 24, none, .call (.k (.fn n_impl_newMachine [] [])) [.t 23]⟩,
      ⟨some 7, none, .mv (.t 24)⟩])
    (.join (.plan [1, 2] [⟨some 26, none, .ld (.t 4)⟩,
      ⟨some 27, none, .len (.t 26)⟩]
      (.alt (.one 0 ⟨some 25, none, .msl ty_sl_int 24 [.sn] (.k (.i .i64 120))⟩ [(26, none, 4)] []
        []
      (.alt (.one 3 ⟨some 28, none, .call (.k (.fn n_impl_none [] [])) [.t 27]⟩ [(26, none, 4)] [4]
        [⟨some 29, none, .build [.sn, .sn] [(0, 1, .t 25), (1, 1, .t 28)]⟩]
      (.one 5 ⟨some 8, none, .alloc ty_impl_GlobalRun [.sn, .sn]⟩ [(26, none, 4)] []
        []
      (.one 6 ⟨none, none, .st 2 (.t 8) (.t 29)⟩ [] []
        []
      .fin))) (.one 5 ⟨some 8, none, .alloc ty_impl_GlobalRun [.sn, .sn]⟩ [(26, none, 4)] []
        []
      (.one 3 ⟨some 28, none, .call (.k (.fn n_impl_none [] [])) [.t 27]⟩ [(26, none, 4)] [4]
        [⟨some 29, none, .build [.sn, .sn] [(0, 1, .t 25), (1, 1, .t 28)]⟩]
      (.one 6 ⟨none, none, .st 2 (.t 8) (.t 29)⟩ [] []
        []
      .fin))))) (.alt (.one 3 ⟨some 28, none, .call (.k (.fn n_impl_none [] [])) [.t 27]⟩ [(26, none, 4)] []
        []
      (.alt (.one 0 ⟨some 25, none, .msl ty_sl_int 24 [.sn] (.k (.i .i64 120))⟩ [(26, none, 4)] [4]
        [⟨some 29, none, .build [.sn, .sn] [(0, 1, .t 25), (1, 1, .t 28)]⟩]
      (.one 5 ⟨some 8, none, .alloc ty_impl_GlobalRun [.sn, .sn]⟩ [(26, none, 4)] []
        []
      (.one 6 ⟨none, none, .st 2 (.t 8) (.t 29)⟩ [] []
        []
      .fin))) (.one 5 ⟨some 8, none, .alloc ty_impl_GlobalRun [.sn, .sn]⟩ [(26, none, 4)] []
        []
      (.one 0 ⟨some 25, none, .msl ty_sl_int 24 [.sn] (.k (.i .i64 120))⟩ [(26, none, 4)] [4]
        [⟨some 29, none, .build [.sn, .sn] [(0, 1, .t 25), (1, 1, .t 28)]⟩]
      (.one 6 ⟨none, none, .st 2 (.t 8) (.t 29)⟩ [] []
        []
      .fin))))) (.one 5 ⟨some 8, none, .alloc ty_impl_GlobalRun [.sn, .sn]⟩ [(26, none, 4)] []
        []
      (.alt (.one 0 ⟨some 25, none, .msl ty_sl_int 24 [.sn] (.k (.i .i64 120))⟩ [(26, none, 4)] []
        []
      (.one 3 ⟨some 28, none, .call (.k (.fn n_impl_none [] [])) [.t 27]⟩ [(26, none, 4)] [4]
        [⟨some 29, none, .build [.sn, .sn] [(0, 1, .t 25), (1, 1, .t 28)]⟩]
      (.one 6 ⟨none, none, .st 2 (.t 8) (.t 29)⟩ [] []
        []
      .fin))) (.one 3 ⟨some 28, none, .call (.k (.fn n_impl_none [] [])) [.t 27]⟩ [(26, none, 4)] []
        []
      (.one 0 ⟨some 25, none, .msl ty_sl_int 24 [.sn] (.k (.i .i64 120))⟩ [(26, none, 4)] [4]
        [⟨some 29, none, .build [.sn, .sn] [(0, 1, .t 25), (1, 1, .t 28)]⟩]
      (.one 6 ⟨none, none, .st 2 (.t 8) (.t 29)⟩ [] []
        []
      .fin))))))))
    (.seq (.block 0 (.loop l2_impl_RunGlobal))
    (.seq (.ops [⟨some 111, none, .ldn 2 (.t 8)⟩,
      ⟨none, none, .st 2 (.t 6) (.t 111)⟩])
    (.ret))))))
theorem k_impl_RunGlobal : chkF Try.prog Try.f34 112 c_impl_RunGlobal [.c 6 (some 2)] = true := by kernel_rfl
theorem call_impl_RunGlobal {args : List AV} {σ : List AB} {K : AV → List AB → Prop} (hn : args.length ≤ 112) (hw : wpC Try.prog σ.length 112 c_impl_RunGlobal (retP σ.length [.c 6 (some 2)] K) ⟨initT 0 args, σ⟩) : CallWp Try.prog n_impl_RunGlobal args σ K := call_fn mixed Try.func34 k_impl_RunGlobal hn hw
def l0_laws_sameGlobal : LC := .seq (.seq (.ops [⟨some 21, none, .mv (.t 5)⟩,
      ⟨some 22, none, .fa 0 (.t 2)⟩,
      ⟨some 23, none, .ld (.t 22)⟩,
      ⟨some 24, none, .len (.t 23)⟩,
      ⟨some 25, none, .bin .lss (.t 21) (.t 24)⟩])
    (.cond (.t 25) (.skip)
    (.exit 0)))
    (.seq (.block 1 (.seq (.draw 12 [⟨some 28, none, .fa 0 (.t 2)⟩,
      ⟨some 29, none, .ld (.t 28)⟩,
      ⟨some 30, none, .mv (.t 5)⟩,
      ⟨some 31, none, .ia 1 (.t 29) (.t 30)⟩,
      ⟨some 32, none, .ld (.t 31)⟩,
      ⟨some 33, none, .fa 0 (.t 3)⟩,
      ⟨some 34, none, .ld (.t 33)⟩,
      ⟨some 35, none, .mv (.t 5)⟩,
      ⟨some 36, none, .ia 1 (.t 34) (.t 35)⟩,
      ⟨some 37, none, .ld (.t 36)⟩,
      ⟨some 38, none, .call (.k (.fn n_laws_sameInts [] [])) [.t 32, .t 37]⟩,
      ⟨some 39, none, .not (.t 38)⟩])
    (.cond (.t 39) (.seq (.ops [⟨some 4, none, .mv (.k (.b false))⟩])
    (.ret))
    (.skip))))
    (.ops [⟨some 26, none, .mv (.t 5)⟩,
      ⟨some 27, none, .bin .add (.t 26) (.k (.i .i64 1))⟩,
      ⟨some 5, none, .mv (.t 27)⟩]))
def c_laws_sameGlobal : LC := .seq (.ops [⟨some 2, none, .box ty_impl_GlobalRun (.t 0)⟩,
      ⟨some 3, none, .box ty_impl_GlobalRun (.t 1)⟩,
      ⟨some 4, none, .mv (.k (.b false))⟩])
    (.seq (.seq (.ops [⟨some 6, none, .fa 0 (.t 2)⟩,
      ⟨some 7, none, .ld (.t 6)⟩,
      ⟨some 8, none, .len (.t 7)⟩,
      ⟨some 9, none, .fa 0 (.t 3)⟩,
      ⟨some 10, none, .ld (.t 9)⟩,
      ⟨some 11, none, .len (.t 10)⟩,
      ⟨some 12, none, .bin .neq (.t 8) (.t 11)⟩,
      ⟨some 13, none, .mv (.t 12)⟩,
      ⟨some 14, (some (13, false)), .fa 1 (.t 2)⟩,
      ⟨some 15, (some (13, false)), .ld (.t 14)⟩,
      ⟨some 16, (some (13, false)), .fa 1 (.t 3)⟩,
      ⟨some 17, (some (13, false)), .ld (.t 16)⟩,
      ⟨some 18, (some (13, false)), .call (.k (.fn n_laws_sameInts [] [])) [.t 15, .t 17]⟩,
      ⟨some 19, (some (13, false)), .not (.t 18)⟩,
      ⟨some 20, none, .pick (.t 13) (.k (.b true)) (.t 19)⟩])
    (.cond (.t 20) (.seq (.ops [⟨some 4, none, .mv (.k (.b false))⟩])
    (.ret))
    (.skip)))
    (.seq (.seq (.ops [⟨some 5, none, .mv (.k (.i .i64 0))⟩])
    (.block 0 (.loop l0_laws_sameGlobal)))
    (.seq (.ops [⟨some 4, none, .mv (.k (.b true))⟩])
    (.ret))))
theorem k_laws_sameGlobal : chkF Try.prog Try.f35 40 c_laws_sameGlobal [.t 4] = true := by kernel_rfl
theorem callC_laws_sameGlobal {args : List AV} {σ : List AB} {K : AV → List AB → Prop} (hn : args.length ≤ 40) (hw : Closed σ → args.all (below1 σ.length) = true → wpC Try.prog σ.length 40 c_laws_sameGlobal (retP σ.length [.t 4] K) ⟨initT 0 args, σ⟩) : CallWp Try.prog n_laws_sameGlobal args σ K := call_fnC mixed Try.func35 k_laws_sameGlobal hn hw
def l0_spec_RunGlobal : LC := .seq (.seq (.ops [⟨some 54, none, .mv (.t 12)⟩,
      ⟨some 55, none, .mv (.t 11)⟩,
      ⟨some 56, none, .len (.t 55)⟩,
      ⟨some 57, none, .bin .lss (.t 54) (.t 56)⟩])
    (.cond (.t 57) (.skip)
    (.exit 4)))
    (.seq (.block 5 (.seq (.ops [⟨some 60, none, .mv (.t 11)⟩,
      ⟨some 61, none, .mv (.t 12)⟩,
      ⟨some 62, none, .ia 1 (.t 60) (.t 61)⟩,
      ⟨some 63, none, .ld (.t 62)⟩,
      ⟨some 13, none, .mv (.t 63)⟩])
    (.seq (.ops [⟨some 64, none, .mv (.t 8)⟩,
      ⟨some 65, none, .mv (.t 13)⟩,
      ⟨some 66, none, .mv (.t 8)⟩,
      ⟨some 67, none, .mv (.t 13)⟩,
      ⟨some 68, none, .ia 1 (.t 66) (.t 67)⟩,
      ⟨some 69, none, .ld (.t 68)⟩,
      ⟨some 70, none, .bin .sub (.t 69) (.k (.i .i64 1))⟩,
      ⟨some 71, none, .ia 1 (.t 64) (.t 65)⟩,
      ⟨none, none, .st 1 (.t 71) (.t 70)⟩])
    (.seq (.ops [⟨some 72, none, .mv (.t 8)⟩,
      ⟨some 73, none, .mv (.t 13)⟩,
      ⟨some 74, none, .ia 1 (.t 72) (.t 73)⟩,
      ⟨some 75, none, .ld (.t 74)⟩,
      ⟨some 76, none, .bin .eql (.t 75) (.k (.i .i64 0))⟩])
    (.cond (.t 76) (.ops [⟨some 77, none, .fa 1 (.t 7)⟩,
      ⟨some 78, none, .ld (.t 77)⟩,
      ⟨some 79, none, .mv (.t 13)⟩,
      ⟨some 80, none, .mv (.t 10)⟩,
      ⟨some 81, none, .bin .add (.t 80) (.k (.i .i64 1))⟩,
      ⟨some 82, none, .ia 1 (.t 78) (.t 79)⟩,
      ⟨none, none, .st 1 (.t 82) (.t 81)⟩])
    (.skip))))))
    (.ops [⟨some 58, none, .mv (.t 12)⟩,
      ⟨some 59, none, .bin .add (.t 58) (.k (.i .i64 1))⟩,
      ⟨some 12, none, .mv (.t 59)⟩]))
def l1_spec_RunGlobal : LC := .seq (.seq (.ops [⟨some 45, none, .mv (.t 10)⟩,
      ⟨some 46, none, .bin .lss (.t 45) (.k (.i .i64 120))⟩])
    (.cond (.t 46) (.skip)
    (.exit 2)))
    (.seq (.block 3 (.seq (.ops [⟨some 49, none, .mv (.t 1)⟩,
      ⟨some 50, none, .mv (.t 8)⟩,
      ⟨some 51, none, .mv (.t 10)⟩,
      ⟨some 52, none, .mv (.t 2)⟩,
      ⟨some 53, none, .call (.k (.fn n_spec_l14Pick [] [])) [.t 49, .t 50, .t 51, .t 52]⟩,
      ⟨some 11, none, .mv (.t 53)⟩])
    (.seq (.seq (.ops [⟨some 12, none, .mv (.k (.i .i64 0))⟩])
    (.block 4 (.loop l0_spec_RunGlobal)))
    (.ops [⟨some 83, none, .fa 0 (.t 7)⟩,
      ⟨some 84, none, .ld (.t 83)⟩,
      ⟨some 85, none, .mv (.t 11)⟩,
      ⟨some 86, none, .bsl ty_sl_int [.sn] 1 [(0, 1, .t 85)]⟩,
      ⟨some 87, none, .app ty_sl_int 1 24 (.t 84) (.t 86)⟩,
      ⟨some 88, none, .fa 0 (.t 7)⟩,
      ⟨none, none, .st 1 (.t 88) (.t 87)⟩]))))
    (.ops [⟨some 47, none, .mv (.t 10)⟩,
      ⟨some 48, none, .bin .add (.t 47) (.k (.i .i64 1))⟩,
      ⟨some 10, none, .mv (.t 48)⟩]))
def l2_spec_RunGlobal : LC := .seq (.seq (.ops [⟨some 26, none, .mv (.t 9)⟩,
      ⟨some 27, none, .mv (.t 1)⟩,
      ⟨some 28, none, .len (.t 27)⟩,
      ⟨some 29, none, .bin .lss (.t 26) (.t 28)⟩])
    (.cond (.t 29) (.skip)
    (.exit 0)))
    (.seq (.block 1 (.seq (.ops [⟨some 32, none, .mv (.t 8)⟩,
      ⟨some 33, none, .mv (.t 1)⟩,
      ⟨some 34, none, .mv (.t 9)⟩,
      ⟨some 35, none, .ia 4 (.t 33) (.t 34)⟩,
      ⟨some 36, none, .fa 3 (.t 35)⟩,
      ⟨some 37, none, .ld (.t 36)⟩,
      ⟨some 38, none, .bsl ty_int [.i .i64 0] 1 [(0, 1, .t 37)]⟩,
      ⟨some 39, none, .app ty_int 1 8 (.t 32) (.t 38)⟩,
      ⟨some 8, none, .mv (.t 39)⟩])
    (.ops [⟨some 40, none, .fa 1 (.t 7)⟩,
      ⟨some 41, none, .ld (.t 40)⟩,
      ⟨some 42, none, .bsl ty_int [.i .i64 0] 1 [(0, 1, .k (.i .i64 (-1)))]⟩,
      ⟨some 43, none, .app ty_int 1 8 (.t 41) (.t 42)⟩,
      ⟨some 44, none, .fa 1 (.t 7)⟩,
      ⟨none, none, .st 1 (.t 44) (.t 43)⟩])))
    (.ops [⟨some 30, none, .mv (.t 9)⟩,
      ⟨some 31, none, .bin .add (.t 30) (.k (.i .i64 1))⟩,
      ⟨some 9, none, .mv (.t 31)⟩]))
def c_spec_RunGlobal : LC := .seq (.ops [⟨some 6, none, .alloc ty_impl_GlobalRun [.sn, .sn]⟩])
    (.seq (.seq (.ops [⟨some 14, none, .mv (.t 0)⟩,
      ⟨some 15, none, .mv (.t 1)⟩,
      ⟨some 16, none, .call (.k (.fn n_spec_JobsLegal [] [])) [.t 14, .t 15]⟩,
      ⟨some 17, none, .not (.t 16)⟩,
      ⟨some 18, none, .mv (.t 17)⟩,
      ⟨some 19, (some (18, false)), .mv (.t 2)⟩,
      ⟨some 20, (some (18, false)), .call (.k (.fn n_spec_l1In [] [])) [.t 19, .k (.i .i64 1), .k (.i .i64 5)]⟩,
      ⟨some 21, (some (18, false)), .not (.t 20)⟩,
      ⟨some 22, none, .pick (.t 18) (.k (.b true)) (.t 21)⟩])
    (.cond (.t 22) (.seq (.ops [⟨some 23, none, .build [.sn, .sn] []⟩,
      ⟨none, none, .st 2 (.t 6) (.t 23)⟩])
    (.ret))
    (.skip)))
    (.seq (.ops [⟨some 24, none, .build [.sn, .sn] []⟩,
      ⟨some 7, none, .alloc ty_impl_GlobalRun [.sn, .sn]⟩,
      ⟨none, none, .st 2 (.t 7) (.t 24)⟩])
    (.seq (.ops [⟨some 25, none, .bsl ty_int [.i .i64 0] 0 []⟩,
      ⟨some 8, none, .mv (.t 25)⟩])
    (.seq (.seq (.ops [⟨some 9, none, .mv (.k (.i .i64 0))⟩])
    (.block 0 (.loop l2_spec_RunGlobal)))
    (.seq (.seq (.ops [⟨some 10, none, .mv (.k (.i .i64 0))⟩])
    (.block 2 (.loop l1_spec_RunGlobal)))
    (.seq (.ops [⟨some 89, none, .ldn 2 (.t 7)⟩,
      ⟨none, none, .st 2 (.t 6) (.t 89)⟩])
    (.ret)))))))
theorem k_spec_RunGlobal : chkF Try.prog Try.f36 90 c_spec_RunGlobal [.c 6 (some 2)] = true := by kernel_rfl
theorem call_spec_RunGlobal {args : List AV} {σ : List AB} {K : AV → List AB → Prop} (hn : args.length ≤ 90) (hw : wpC Try.prog σ.length 90 c_spec_RunGlobal (retP σ.length [.c 6 (some 2)] K) ⟨initT 0 args, σ⟩) : CallWp Try.prog n_spec_RunGlobal args σ K := call_fn mixed Try.func36 k_spec_RunGlobal hn hw
def l0_impl_DensityFeasible : LC := .seq (.ops [⟨some 21, none, .bin .lss (.t 20) (.t 19)⟩])
    (.seq (.cond (.t 21) (.skip)
    (.exit 0))
    (.seq (.block 1 (.seq (.ops [⟨some 22, none, .ia 3 (.t 18) (.t 20)⟩,
      ⟨some 23, none, .ldn 3 (.t 22)⟩,
      ⟨some 8, none, .alloc ty_impl_Task [.i .i64 0, .i .i64 0, .i .i64 0]⟩,
      ⟨none, none, .st 3 (.t 8) (.t 23)⟩])
    (.seq (.draw 6 [⟨some 24, none, .fa 1 (.t 8)⟩,
      ⟨some 25, none, .ld (.t 24)⟩,
      ⟨some 26, none, .bin .quo (.k (.i .i64 27720)) (.t 25)⟩,
      ⟨some 27, none, .fa 0 (.t 8)⟩,
      ⟨some 28, none, .ld (.t 27)⟩,
      ⟨some 29, none, .bin .mul (.t 26) (.t 28)⟩,
      ⟨some 9, none, .mv (.t 29)⟩])
    (.seq (.ops [⟨some 30, none, .mv (.t 5)⟩,
      ⟨some 31, none, .mv (.t 9)⟩,
      ⟨some 32, none, .bin .add (.t 30) (.t 31)⟩,
      ⟨some 5, none, .mv (.t 32)⟩])
    (.ops [⟨some 33, none, .mv (.t 6)⟩,
      ⟨some 34, none, .mv (.t 9)⟩,
      ⟨some 35, none, .mx (.t 33) (.t 34)⟩,
      ⟨some 6, none, .mv (.t 35)⟩])))))
    (.ops [⟨some 36, none, .bin .add (.t 20) (.k (.i .i64 1))⟩,
      ⟨some 20, none, .mv (.t 36)⟩])))
def c_impl_DensityFeasible : LC := .seq (.ops [⟨some 4, none, .mv (.k (.b false))⟩])
    (.seq (.seq (.ops [⟨some 10, none, .mv (.t 0)⟩,
      ⟨some 11, none, .call (.k (.fn n_impl_SetValid [] [])) [.t 10]⟩,
      ⟨some 12, none, .not (.t 11)⟩,
      ⟨some 13, none, .mv (.t 12)⟩,
      ⟨some 14, (some (13, false)), .mv (.t 1)⟩,
      ⟨some 15, (some (13, false)), .call (.k (.fn n_impl_isCores [] [])) [.t 14]⟩,
      ⟨some 16, (some (13, false)), .not (.t 15)⟩,
      ⟨some 17, none, .pick (.t 13) (.k (.b true)) (.t 16)⟩])
    (.cond (.t 17) (.seq (.ops [⟨some 4, none, .mv (.k (.b false))⟩])
    (.ret))
    (.skip)))
    (.seq (.ops [⟨some 5, none, .mv (.k (.i .i64 0))⟩,
      ⟨some 6, none, .mv (.k (.i .i64 0))⟩])
    (.seq (.seq (.ops [⟨some 18, none, .mv (.t 0)⟩,
      ⟨some 19, none, .len (.t 18)⟩,
      ⟨some 20, none, .mv (.k (.i .i64 0))⟩])
    (.block 0 (.loop l0_impl_DensityFeasible)))
    (.seq (.ops [⟨some 37, none, .mv (.t 5)⟩,
      ⟨some 38, none, .mv (.t 1)⟩,
      ⟨some 39, none, .bin .mul (.t 38) (.k (.i .i64 27720))⟩,
      ⟨some 40, none, .mv (.t 1)⟩,
      ⟨some 41, none, .bin .sub (.t 40) (.k (.i .i64 1))⟩,
      ⟨some 42, none, .mv (.t 6)⟩,
      ⟨some 43, none, .bin .mul (.t 41) (.t 42)⟩,
      ⟨some 44, none, .bin .sub (.t 39) (.t 43)⟩,
      ⟨some 45, none, .bin .leq (.t 37) (.t 44)⟩,
      ⟨some 4, none, .mv (.t 45)⟩])
    (.ret)))))
theorem k_impl_DensityFeasible : chkF Try.prog Try.f41 46 c_impl_DensityFeasible [.t 4] = true := by kernel_rfl
theorem call_impl_DensityFeasible {args : List AV} {σ : List AB} {K : AV → List AB → Prop} (hn : args.length ≤ 46) (hw : wpC Try.prog σ.length 46 c_impl_DensityFeasible (retP σ.length [.t 4] K) ⟨initT 0 args, σ⟩) : CallWp Try.prog n_impl_DensityFeasible args σ K := call_fn mixed Try.func41 k_impl_DensityFeasible hn hw
def c_impl_GlobalMissed : LC := .seq (.ops [⟨some 3, none, .box ty_impl_GlobalRun (.t 1)⟩,
      ⟨some 4, none, .mv (.k (.sn))⟩])
    (.seq (.ops [⟨some 5, none, .mv (.t 0)⟩,
      ⟨some 6, none, .fa 1 (.t 3)⟩,
      ⟨some 7, none, .ld (.t 6)⟩,
      ⟨some 8, none, .call (.k (.fn n_impl_missed [] [])) [.t 5, .t 7]⟩,
      ⟨some 4, none, .mv (.t 8)⟩])
    (.ret))
theorem k_impl_GlobalMissed : chkF Try.prog Try.f42 9 c_impl_GlobalMissed [.t 4] = true := by kernel_rfl
theorem call_impl_GlobalMissed {args : List AV} {σ : List AB} {K : AV → List AB → Prop} (hn : args.length ≤ 9) (hw : wpC Try.prog σ.length 9 c_impl_GlobalMissed (retP σ.length [.t 4] K) ⟨initT 0 args, σ⟩) : CallWp Try.prog n_impl_GlobalMissed args σ K := call_fn mixed Try.func42 k_impl_GlobalMissed hn hw
def c_spec_l20Open : LC := .seq (.ops [⟨some 2, none, .mv (.k (.pn))⟩])
    (.join (.seq (.ops [⟨some 3, none, .mv (.t 0)⟩,
      ⟨some 4, none, .len (.t 3)⟩,
      ⟨some 5, none, .bin .gtr (.t 4) (.k (.i .i64 2000))⟩])
    (.cond (.t 5) (.ops [⟨some 6, none, .mv (.t 0)⟩,
      ⟨some 7, none, .slc 1 (.t 6) none (some (.k (.i .i64 2000))) none⟩,
      ⟨some 0, none, .mv (.t 7)⟩])
    (.skip)))
    (.seq (.ops [⟨some 8, none, .mv (.t 0)⟩,
      ⟨some 9, none, .build [.sn, .i .i64 0] [(0, 1, .t 8)]⟩,
      ⟨some 10, none, .box ty_spec_l20Rd (.t 9)⟩,
      ⟨some 2, none, .mv (.t 10)⟩])
    (.ret)))
theorem k_spec_l20Open : chkF Try.prog Try.f43 11 c_spec_l20Open [.t 2] = true := by kernel_rfl
theorem call_spec_l20Open {args : List AV} {σ : List AB} {K : AV → List AB → Prop} (hn : args.length ≤ 11) (hw : wpC Try.prog σ.length 11 c_spec_l20Open (retP σ.length [.t 2] K) ⟨initT 0 args, σ⟩) : CallWp Try.prog n_spec_l20Open args σ K := call_fn mixed Try.func43 k_spec_l20Open hn hw
end Go.Proofs.Ytmphblbpofnpaaa
