import Derived.Test.YtmphblbpofnpaaaProg
import Derived.Test.YtmphblbpofnpaaaLowA
import Derived.KernelRfl
namespace Go.Proofs.Ytmphblbpofnpaaa
open Go.Abs
set_option maxRecDepth 100000
def c_impl_TaskValid : LC := .seq (.ops [⟨some 1, none, .box ty_impl_Task (.t 0)⟩,
      ⟨some 2, none, .mv (.k (.b false))⟩])
    (.seq (.ops [⟨some 3, none, .fa 0 (.t 1)⟩,
      ⟨some 4, none, .ld (.t 3)⟩,
      ⟨some 5, none, .call (.k (.fn n_impl_in [] [])) [.t 4, .k (.i .i64 1), .k (.i .i64 8)]⟩,
      ⟨some 6, none, .mv (.t 5)⟩,
      ⟨some 7, (some (6, true)), .fa 1 (.t 1)⟩,
      ⟨some 8, (some (6, true)), .ld (.t 7)⟩,
      ⟨some 9, (some (6, true)), .fa 0 (.t 1)⟩,
      ⟨some 10, (some (6, true)), .ld (.t 9)⟩,
      ⟨some 11, (some (6, true)), .fa 2 (.t 1)⟩,
      ⟨some 12, (some (6, true)), .ld (.t 11)⟩,
      ⟨some 13, (some (6, true)), .call (.k (.fn n_impl_in [] [])) [.t 8, .t 10, .t 12]⟩,
      ⟨some 14, none, .pick (.t 6) (.t 13) (.k (.b false))⟩,
      ⟨some 15, none, .mv (.t 14)⟩,
      ⟨some 16, (some (15, true)), .fa 2 (.t 1)⟩,
      ⟨some 17, (some (15, true)), .ld (.t 16)⟩,
      ⟨some 18, (some (15, true)), .bin .leq (.t 17) (.k (.i .i64 12))⟩,
      ⟨some 19, none, .pick (.t 15) (.t 18) (.k (.b false))⟩,
      ⟨some 2, none, .mv (.t 19)⟩])
    (.ret))
theorem k_impl_TaskValid : chkF Try.prog Try.f54 20 c_impl_TaskValid [.t 2] = true := by kernel_rfl
theorem call_impl_TaskValid {args : List AV} {σ : List AB} {K : AV → List AB → Prop} (hn : args.length ≤ 20) (hw : wpC Try.prog σ.length 20 c_impl_TaskValid (retP σ.length [.t 2] K) ⟨initT 0 args, σ⟩) : CallWp Try.prog n_impl_TaskValid args σ K := call_fn mixed Try.func54 k_impl_TaskValid hn hw
def c_impl_JobsLegal : LC := .seq (.ops [⟨some 2, none, .box ty_sl_impl_Task (.t 0)⟩,
      ⟨some 4, none, .mv (.k (.b false))⟩])
    (.seq (.ops [⟨some 5, none, .ld (.t 2)⟩,
      ⟨some 6, none, .call (.k (.fn n_impl_SetValid [] [])) [.t 5]⟩,
      ⟨some 7, none, .mv (.t 6)⟩,
      ⟨some 8, (some (7, true)), .mv (.t 1)⟩,
      ⟨some 9, (some (7, true)), .ld (.t 2)⟩,
      ⟨some 10, (some (7, true)), .len (.t 9)⟩,
      ⟨some 11, (some (7, true)), .mkf n_impl_JobsLegal_1 [] [.t 2]⟩,
      ⟨some 12, (some (7, true)), .call (.k (.fn n_impl_ordered [] [])) [.t 8, .t 10, .t 11]⟩,
      ⟨some 13, none, .pick (.t 7) (.t 12) (.k (.b false))⟩,
      ⟨some 14, none, .mv (.t 13)⟩,
      ⟨some 15, (some (14, true)), .mv (.t 1)⟩,
      ⟨some 16, (some (14, true)), .mkf n_impl_JobsLegal_2 [] [.t 2]⟩,
      ⟨some 17, (some (14, true)), .call (.k (.fn n_impl_spaced [] [])) [.t 15, .k (.fn n_impl_release [] []), .t 16]⟩,
      ⟨some 18, none, .pick (.t 14) (.t 17) (.k (.b false))⟩,
      ⟨some 19, none, .mv (.t 18)⟩,
      ⟨some 20, (some (19, true)), .mv (.t 1)⟩,
      ⟨some 21, (some (19, true)), .mkf n_impl_JobsLegal_3 [] [.t 2]⟩,
      ⟨some 22, (some (19, true)), .call (.k (.fn n_slices_ContainsFunc_impl_Job [] [])) [.t 20, .t 21]⟩,
      ⟨some 23, (some (19, true)), .not (.t 22)⟩,
      ⟨some 24, none, .pick (.t 19) (.t 23) (.k (.b false))⟩,
      ⟨some 4, none, .mv (.t 24)⟩])
    (.ret))
theorem k_impl_JobsLegal : chkF Try.prog Try.f56 25 c_impl_JobsLegal [.t 4] = true := by kernel_rfl
theorem call_impl_JobsLegal {args : List AV} {σ : List AB} {K : AV → List AB → Prop} (hn : args.length ≤ 25) (hw : wpC Try.prog σ.length 25 c_impl_JobsLegal (retP σ.length [.t 4] K) ⟨initT 0 args, σ⟩) : CallWp Try.prog n_impl_JobsLegal args σ K := call_fn mixed Try.func56 k_impl_JobsLegal hn hw
def c_impl_edf : LC := .seq (.ops [⟨some 2, none, .mv (.k (.i .i64 0))⟩])
    (.seq (.ops [⟨some 3, none, .mv (.t 0)⟩,
      ⟨some 4, none, .mv (.t 0)⟩,
      ⟨some 5, none, .mkf n_impl_machine_deadline [.t 4] []⟩,
      ⟨some 6, none, .mv (.t 0)⟩,
      ⟨some 7, none, .mkf n_impl_machine_any [.t 6] []⟩,
      ⟨some 8, none, .call (.k (.fn n_impl_machine_best [] [])) [.t 3, .t 5, .t 7]⟩,
      ⟨some 2, none, .mv (.t 8)⟩])
    (.ret))
theorem k_impl_edf : chkF Try.prog Try.f57 9 c_impl_edf [.t 2] = true := by kernel_rfl
theorem call_impl_edf {args : List AV} {σ : List AB} {K : AV → List AB → Prop} (hn : args.length ≤ 9) (hw : wpC Try.prog σ.length 9 c_impl_edf (retP σ.length [.t 2] K) ⟨initT 0 args, σ⟩) : CallWp Try.prog n_impl_edf args σ K := call_fn mixed Try.func57 k_impl_edf hn hw
def l0_spec_l20Set : LC := .seq (.seq (.ops [⟨some 25, none, .mv (.t 5)⟩,
      ⟨some 26, none, .len (.t 25)⟩,
      ⟨some 27, none, .bin .leq (.t 26) (.k (.i .i64 5))⟩])
    (.cond (.t 27) (.skip)
    (.exit 2)))
    (.block 3 (.ops [⟨some 28, none, .mv (.t 5)⟩,
      ⟨some 29, none, .mv (.t 0)⟩,
      ⟨some 30, none, .call (.k (.fn n_spec_l20Task [] [])) [.t 29, .k (.i .i64 0)]⟩,
      ⟨some 31, none, .bsl ty_impl_Task [.i .i64 0, .i .i64 0, .i .i64 0] 1 [(0, 3, .t 30)]⟩,
      ⟨some 32, none, .app ty_impl_Task 3 24 (.t 28) (.t 31)⟩,
      ⟨some 5, none, .mv (.t 32)⟩]))
def l1_spec_l20Set : LC := .seq (.seq (.ops [⟨some 10, none, .mv (.t 6)⟩,
      ⟨some 11, none, .bin .gtr (.t 10) (.k (.i .i64 0))⟩])
    (.cond (.t 11) (.skip)
    (.exit 0)))
    (.seq (.block 1 (.ops [⟨some 14, none, .mv (.t 5)⟩,
      ⟨some 15, none, .mv (.t 0)⟩,
      ⟨some 16, none, .call (.k (.fn n_spec_l20Task [] [])) [.t 15, .k (.i .i64 0)]⟩,
      ⟨some 17, none, .bsl ty_impl_Task [.i .i64 0, .i .i64 0, .i .i64 0] 1 [(0, 3, .t 16)]⟩,
      ⟨some 18, none, .app ty_impl_Task 3 24 (.t 14) (.t 17)⟩,
      ⟨some 5, none, .mv (.t 18)⟩]))
    (.ops [⟨some 12, none, .mv (.t 6)⟩,
      ⟨some 13, none, .bin .sub (.t 12) (.k (.i .i64 1))⟩,
      ⟨some 6, none, .mv (.t 13)⟩]))
def c_spec_l20Set : LC := .seq (.ops [⟨some 4, none, .mv (.k (.sn))⟩])
    (.seq (.ops [⟨some 7, none, .bsl ty_impl_Task [.i .i64 0, .i .i64 0, .i .i64 0] 0 []⟩,
      ⟨some 5, none, .mv (.t 7)⟩])
    (.seq (.seq (.ops [⟨some 8, none, .mv (.t 0)⟩,
      ⟨some 9, none, .call (.k (.fn n_spec_l20Rd_pick [] [])) [.t 8, .k (.i .i64 6)]⟩,
      ⟨some 6, none, .mv (.t 9)⟩])
    (.block 0 (.loop l1_spec_l20Set)))
    (.join (.seq (.ops [⟨some 19, none, .mv (.t 0)⟩,
      ⟨some 20, none, .mv (.t 1)⟩,
      ⟨some 21, none, .call (.k (.fn n_spec_l20Rd_odd [] [])) [.t 19, .t 20]⟩])
    (.cond (.t 21) (.seq (.seq (.ops [⟨some 22, none, .mv (.t 0)⟩,
      ⟨some 23, none, .call (.k (.fn n_spec_l20Rd_pick [] [])) [.t 22, .k (.i .i64 3)]⟩,
      ⟨some 24, none, .bin .eql (.t 23) (.k (.i .i64 0))⟩])
    (.cond (.t 24) (.block 2 (.loop l0_spec_l20Set))
    (.skip)))
    (.ops [⟨some 33, none, .mv (.t 5)⟩,
      ⟨some 34, none, .mv (.t 0)⟩,
      ⟨some 35, none, .call (.k (.fn n_spec_l20Task [] [])) [.t 34, .k (.i .i64 2)]⟩,
      ⟨some 36, none, .bsl ty_impl_Task [.i .i64 0, .i .i64 0, .i .i64 0] 1 [(0, 3, .t 35)]⟩,
      ⟨some 37, none, .app ty_impl_Task 3 24 (.t 33) (.t 36)⟩,
      ⟨some 5, none, .mv (.t 37)⟩]))
    (.skip)))
    (.seq (.ops [⟨some 38, none, .mv (.t 5)⟩,
      ⟨some 4, none, .mv (.t 38)⟩])
    (.ret)))))
theorem k_spec_l20Set : chkF Try.prog Try.f65 39 c_spec_l20Set [.t 4] = true := by kernel_rfl
theorem call_spec_l20Set {args : List AV} {σ : List AB} {K : AV → List AB → Prop} (hn : args.length ≤ 39) (hw : wpC Try.prog σ.length 39 c_spec_l20Set (retP σ.length [.t 4] K) ⟨initT 0 args, σ⟩) : CallWp Try.prog n_spec_l20Set args σ K := call_fn mixed Try.func65 k_spec_l20Set hn hw
def l0_spec_SetValid : LC := .seq (.seq (.ops [⟨some 4, none, .mv (.t 3)⟩,
      ⟨some 5, none, .mv (.t 0)⟩,
      ⟨some 6, none, .len (.t 5)⟩,
      ⟨some 7, none, .bin .lss (.t 4) (.t 6)⟩])
    (.cond (.t 7) (.skip)
    (.exit 0)))
    (.seq (.block 1 (.seq (.ops [⟨some 10, none, .mv (.t 0)⟩,
      ⟨some 11, none, .mv (.t 3)⟩,
      ⟨some 12, none, .ia 3 (.t 10) (.t 11)⟩,
      ⟨some 13, none, .ldn 3 (.t 12)⟩,
      ⟨some 14, none, .call (.k (.fn n_spec_TaskValid [] [])) [.t 13]⟩,
      ⟨some 15, none, .not (.t 14)⟩])
    (.cond (.t 15) (.seq (.ops [⟨some 2, none, .mv (.k (.b false))⟩])
    (.ret))
    (.skip))))
    (.ops [⟨some 8, none, .mv (.t 3)⟩,
      ⟨some 9, none, .bin .add (.t 8) (.k (.i .i64 1))⟩,
      ⟨some 3, none, .mv (.t 9)⟩]))
def c_spec_SetValid : LC := .seq (.ops [⟨some 2, none, .mv (.k (.b false))⟩])
    (.seq (.seq (.ops [⟨some 3, none, .mv (.k (.i .i64 0))⟩])
    (.block 0 (.loop l0_spec_SetValid)))
    (.seq (.ops [⟨some 16, none, .mv (.t 0)⟩,
      ⟨some 17, none, .len (.t 16)⟩,
      ⟨some 18, none, .bin .leq (.t 17) (.k (.i .i64 5))⟩,
      ⟨some 2, none, .mv (.t 18)⟩])
    (.ret)))
theorem k_spec_SetValid : chkF Try.prog Try.f67 19 c_spec_SetValid [.t 2] = true := by kernel_rfl
theorem call_spec_SetValid {args : List AV} {σ : List AB} {K : AV → List AB → Prop} (hn : args.length ≤ 19) (hw : wpC Try.prog σ.length 19 c_spec_SetValid (retP σ.length [.t 2] K) ⟨initT 0 args, σ⟩) : CallWp Try.prog n_spec_SetValid args σ K := call_fn mixed Try.func67 k_spec_SetValid hn hw
def l0_spec_l20Jobs : LC := .seq (.seq (.ops [⟨some 103, none, .mv (.t 7)⟩,
      ⟨some 104, none, .len (.t 103)⟩,
      ⟨some 105, none, .bin .leq (.t 104) (.k (.i .i64 60))⟩])
    (.cond (.t 105) (.skip)
    (.exit 5)))
    (.block 6 (.ops [⟨some 106, none, .mv (.t 7)⟩,
      ⟨some 107, none, .build [.i .i64 0, .i .i64 0, .i .i64 0, .i .i64 0] [(1, 1, .k (.i .i64 119)), (2, 1, .k (.i .i64 120)), (3, 1, .k (.i .i64 1))]⟩,
      ⟨some 108, none, .bsl ty_impl_Job [.i .i64 0, .i .i64 0, .i .i64 0, .i .i64 0] 1 [(0, 4, .t 107)]⟩,
      ⟨some 109, none, .app ty_impl_Job 4 32 (.t 106) (.t 108)⟩,
      ⟨some 7, none, .mv (.t 109)⟩]))
def l1_spec_l20Jobs : LC := .seq (.seq (.ops [⟨some 24, none, .mv (.t 11)⟩,
      ⟨some 25, none, .mv (.t 1)⟩,
      ⟨some 26, none, .len (.t 25)⟩,
      ⟨some 27, none, .bin .lss (.t 24) (.t 26)⟩])
    (.cond (.t 27) (.skip)
    (.exit 2)))
    (.seq (.block 3 (.seq (.join (.ops [⟨some 30, none, .mv (.t 10)⟩,
      ⟨some 31, none, .mv (.t 8)⟩,
      ⟨some 32, none, .mv (.t 11)⟩,
      ⟨some 33, none, .ia 1 (.t 31) (.t 32)⟩,
      ⟨some 34, none, .ld (.t 33)⟩,
      ⟨some 35, none, .bin .lss (.t 30) (.t 34)⟩,
      ⟨some 36, none, .mv (.t 35)⟩,
      ⟨some 37, (some (36, false)), .mv (.t 7)⟩,
      ⟨some 38, (some (36, false)), .len (.t 37)⟩,
      ⟨some 39, (some (36, false)), .bin .eql (.t 38) (.k (.i .i64 60))⟩,
      ⟨some 40, none, .pick (.t 36) (.k (.b true)) (.t 39)⟩,
      ⟨some 41, none, .mv (.t 40)⟩,
      ⟨some 42, (some (41, false)), .mv (.t 9)⟩,
      ⟨some 43, (some (41, false)), .bin .lss (.t 42) (.k (.i .i64 2))⟩,
      ⟨some 44, (some (41, false)), .mv (.t 43)⟩,
      ⟨some 45, (some (44, true)), .mv (.t 0)⟩,
      ⟨some 46, (some (44, true)), .mv (.t 9)⟩,
      ⟨some 47, (some (44, true)), .bin .mul (.k (.i .i64 7)) (.t 46)⟩,
      ⟨some 48, (some (44, true)), .bin .add (.k (.i .i64 3)) (.t 47)⟩,
      ⟨some 49, (some (44, true)), .call (.k (.fn n_spec_l20Rd_pick [] [])) [.t 45, .t 48]⟩,
      ⟨some 50, (some (44, true)), .bin .gtr (.t 49) (.k (.i .i64 1))⟩,
      ⟨some 51, (some (41, false)), .pick (.t 44) (.t 50) (.k (.b false))⟩,
      ⟨some 52, none, .pick (.t 41) (.k (.b true)) (.t 51)⟩])
    (.cond (.t 52) (.exit 3)
    (.skip)))
    (.seq (.ops [⟨some 53, none, .mv (.t 1)⟩,
      ⟨some 54, none, .mv (.t 11)⟩,
      ⟨some 55, none, .ia 3 (.t 53) (.t 54)⟩,
      ⟨some 56, none, .fa 0 (.t 55)⟩,
      ⟨some 57, none, .ld (.t 56)⟩,
      ⟨some 12, none, .mv (.t 57)⟩])
    (.join (.seq (.ops [⟨some 58, none, .mv (.t 0)⟩,
      ⟨some 59, none, .call (.k (.fn n_spec_l20Rd_pick [] [])) [.t 58, .k (.i .i64 3)]⟩,
      ⟨some 60, none, .bin .eql (.t 59) (.k (.i .i64 0))⟩])
    (.cond (.t 60) (.ops [⟨some 61, none, .mv (.t 0)⟩,
      ⟨some 62, none, .mv (.t 12)⟩,
      ⟨some 63, none, .call (.k (.fn n_spec_l20Rd_pick [] [])) [.t 61, .t 62]⟩,
      ⟨some 64, none, .bin .add (.k (.i .i64 1)) (.t 63)⟩,
      ⟨some 12, none, .mv (.t 64)⟩])
    (.skip)))
    (.seq (.ops [⟨some 65, none, .mv (.t 7)⟩,
      ⟨some 66, none, .mv (.t 11)⟩,
      ⟨some 67, none, .mv (.t 10)⟩,
      ⟨some 68, none, .mv (.t 10)⟩,
      ⟨some 69, none, .mv (.t 1)⟩,
      ⟨some 70, none, .mv (.t 11)⟩,
      ⟨some 71, none, .ia 3 (.t 69) (.t 70)⟩,
      ⟨some 72, none, .fa 1 (.t 71)⟩,
      ⟨some 73, none, .ld (.t 72)⟩,
      ⟨some 74, none, .bin .add (.t 68) (.t 73)⟩,
      ⟨some 75, none, .mv (.t 12)⟩,
      ⟨some 76, none, .build [.i .i64 0, .i .i64 0, .i .i64 0, .i .i64 0] [(0, 1, .t 66), (1, 1, .t 67), (2, 1, .t 74), (3, 1, .t 75)]⟩,
      ⟨some 77, none, .bsl ty_impl_Job [.i .i64 0, .i .i64 0, .i .i64 0, .i .i64 0] 1 [(0, 4, .t 76)]⟩,
      ⟨some 78, none, .app ty_impl_Job 4 32 (.t 65) (.t 77)⟩,
      ⟨some 7, none, .mv (.t 78)⟩])
    (.ops [⟨some 79, none, .mv (.t 8)⟩,
      ⟨some 80, none, .mv (.t 11)⟩,
      ⟨some 81, none, .mv (.t 10)⟩,
      ⟨some 82, none, .mv (.t 1)⟩,
      ⟨some 83, none, .mv (.t 11)⟩,
      ⟨some 84, none, .ia 3 (.t 82) (.t 83)⟩,
      ⟨some 85, none, .fa 2 (.t 84)⟩,
      ⟨some 86, none, .ld (.t 85)⟩,
      ⟨some 87, none, .bin .add (.t 81) (.t 86)⟩,
      ⟨some 88, none, .ia 1 (.t 79) (.t 80)⟩,
      ⟨none, none, .st 1 (.t 88) (.t 87)⟩]))))))
    (.ops [⟨some 28, none, .mv (.t 11)⟩,
      ⟨some 29, none, .bin .add (.t 28) (.k (.i .i64 1))⟩,
      ⟨some 11, none, .mv (.t 29)⟩]))
def l2_spec_l20Jobs : LC := .seq (.seq (.ops [⟨some 20, none, .mv (.t 10)⟩,
      ⟨some 21, none, .bin .lss (.t 20) (.k (.i .i64 100))⟩])
    (.cond (.t 21) (.skip)
    (.exit 0)))
    (.seq (.block 1 (.seq (.ops [⟨some 11, none, .mv (.k (.i .i64 0))⟩])
    (.block 2 (.loop l1_spec_l20Jobs))))
    (.ops [⟨some 22, none, .mv (.t 10)⟩,
      ⟨some 23, none, .bin .add (.t 22) (.k (.i .i64 1))⟩,
      ⟨some 10, none, .mv (.t 23)⟩]))
def c_spec_l20Jobs : LC := .seq (.ops [⟨some 6, none, .mv (.k (.sn))⟩])
    (.seq (.ops [⟨some 14, none, .bsl ty_impl_Job [.i .i64 0, .i .i64 0, .i .i64 0, .i .i64 0] 0 []⟩,
      ⟨some 7, none, .mv (.t 14)⟩])
    (.seq (.ops [⟨some 15, none, .mv (.t 1)⟩,
      ⟨some 16, none, .len (.t 15)⟩,
      ⟨some 17, none, .msl ty_int 8 [.i .i64 0] (.t 16)⟩,
      ⟨some 8, none, .mv (.t 17)⟩])
    (.seq (.ops [⟨some 18, none, .mv (.t 0)⟩,
      ⟨some 19, none, .call (.k (.fn n_spec_l20Rd_pick [] [])) [.t 18, .k (.i .i64 3)]⟩,
      ⟨some 9, none, .mv (.t 19)⟩])
    (.seq (.seq (.ops [⟨some 10, none, .mv (.k (.i .i64 0))⟩])
    (.block 0 (.loop l2_spec_l20Jobs)))
    (.join (.seq (.ops [⟨some 89, none, .mv (.t 0)⟩,
      ⟨some 90, none, .mv (.t 2)⟩,
      ⟨some 91, none, .call (.k (.fn n_spec_l20Rd_odd [] [])) [.t 89, .t 90]⟩,
      ⟨some 92, none, .mv (.t 91)⟩,
      ⟨some 93, (some (92, true)), .mv (.t 7)⟩,
      ⟨some 94, (some (92, true)), .len (.t 93)⟩,
      ⟨some 95, (some (92, true)), .bin .gtr (.t 94) (.k (.i .i64 0))⟩,
      ⟨some 96, none, .pick (.t 92) (.t 95) (.k (.b false))⟩])
    (.cond (.t 96) (.seq (.ops [⟨some 97, none, .mv (.t 0)⟩,
      ⟨some 98, none, .mv (.t 7)⟩,
      ⟨some 99, none, .len (.t 98)⟩,
      ⟨some 100, none, .call (.k (.fn n_spec_l20Rd_pick [] [])) [.t 97, .t 99]⟩,
      ⟨some 13, none, .mv (.t 100)⟩])
    (.seq (.ops [⟨some 101, none, .mv (.t 0)⟩,
      ⟨some 102, none, .call (.k (.fn n_spec_l20Rd_pick [] [])) [.t 101, .k (.i .i64 6)]⟩])
    (.block 4 (.seq (.ops [⟨some 111, none, .bin .eql (.t 102) (.k (.i .i64 0))⟩,
      ⟨some 110, none, .mv (.t 111)⟩])
    (.cond (.t 110) (.ops [⟨some 112, none, .mv (.t 7)⟩,
      ⟨some 113, none, .mv (.t 13)⟩,
      ⟨some 114, none, .mv (.t 1)⟩,
      ⟨some 115, none, .len (.t 114)⟩,
      ⟨some 116, none, .bsl ty_int [.i .i64 0] 2 [(0, 1, .k (.i .i64 (-1))), (1, 1, .t 115)]⟩,
      ⟨some 117, none, .mv (.t 0)⟩,
      ⟨some 118, none, .call (.k (.fn n_spec_l20Rd_pick [] [])) [.t 117, .k (.i .i64 2)]⟩,
      ⟨some 119, none, .ia 1 (.t 116) (.t 118)⟩,
      ⟨some 120, none, .ld (.t 119)⟩,
      ⟨some 121, none, .ia 4 (.t 112) (.t 113)⟩,
      ⟨some 122, none, .fa 0 (.t 121)⟩,
      ⟨none, none, .st 1 (.t 122) (.t 120)⟩])
    (.seq (.ops [⟨some 124, none, .bin .eql (.t 102) (.k (.i .i64 1))⟩,
      ⟨some 123, none, .mv (.t 124)⟩])
    (.cond (.t 123) (.plan [0, 1, 2, 3, 4, 5, 6, 7, 9] [⟨some 125, none, .mv (.t 7)⟩,
      ⟨some 126, none, .mv (.t 13)⟩,
      ⟨some 127, none, .mv (.t 7)⟩,
      ⟨some 128, none, .mv (.t 13)⟩,
      ⟨some 129, none, .ia 4 (.t 127) (.t 128)⟩,
      ⟨some 130, none, .fa 1 (.t 129)⟩,
      ⟨some 131, none, .ld (.t 130)⟩,
      ⟨some 132, none, .bin .add (.t 131) (.k (.i .i64 1))⟩,
      ⟨some 134, none, .mv (.t 0)⟩]
      (.alt (.one 8 ⟨some 133, none, .bsl ty_int [.i .i64 0] 3 [(0, 1, .k (.i .i64 (-1))), (1, 1, .k (.i .i64 120)), (2, 1, .t 132)]⟩ [(131, none, 130)] []
        []
      (.one 10 ⟨some 135, none, .call (.k (.fn n_spec_l20Rd_pick [] [])) [.t 134, .k (.i .i64 3)]⟩ [(131, none, 130)] [11, 12, 13, 14]
        [⟨some 136, none, .ia 1 (.t 133) (.t 135)⟩,
        ⟨some 137, none, .ld (.t 136)⟩,
        ⟨some 138, none, .ia 4 (.t 125) (.t 126)⟩,
        ⟨some 139, none, .fa 1 (.t 138)⟩]
      (.one 15 ⟨none, none, .st 1 (.t 139) (.t 137)⟩ [] []
        []
      .fin))) (.one 10 ⟨some 135, none, .call (.k (.fn n_spec_l20Rd_pick [] [])) [.t 134, .k (.i .i64 3)]⟩ [(131, none, 130)] []
        []
      (.one 8 ⟨some 133, none, .bsl ty_int [.i .i64 0] 3 [(0, 1, .k (.i .i64 (-1))), (1, 1, .k (.i .i64 120)), (2, 1, .t 132)]⟩ [(131, none, 130)] [11, 12, 13, 14]
        [⟨some 136, none, .ia 1 (.t 133) (.t 135)⟩,
        ⟨some 137, none, .ld (.t 136)⟩,
        ⟨some 138, none, .ia 4 (.t 125) (.t 126)⟩,
        ⟨some 139, none, .fa 1 (.t 138)⟩]
      (.one 15 ⟨none, none, .st 1 (.t 139) (.t 137)⟩ [] []
        []
      .fin)))))
    (.seq (.ops [⟨some 141, none, .bin .eql (.t 102) (.k (.i .i64 2))⟩,
      ⟨some 140, none, .mv (.t 141)⟩])
    (.cond (.t 140) (.ops [⟨some 142, none, .mv (.t 7)⟩,
      ⟨some 143, none, .mv (.t 13)⟩,
      ⟨some 144, none, .mv (.t 7)⟩,
      ⟨some 145, none, .mv (.t 13)⟩,
      ⟨some 146, none, .ia 4 (.t 144) (.t 145)⟩,
      ⟨some 147, none, .fa 2 (.t 146)⟩,
      ⟨some 148, none, .ld (.t 147)⟩,
      ⟨some 149, none, .bin .add (.t 148) (.k (.i .i64 1))⟩,
      ⟨some 150, none, .ia 4 (.t 142) (.t 143)⟩,
      ⟨some 151, none, .fa 2 (.t 150)⟩,
      ⟨none, none, .st 1 (.t 151) (.t 149)⟩])
    (.seq (.ops [⟨some 153, none, .bin .eql (.t 102) (.k (.i .i64 3))⟩,
      ⟨some 152, none, .mv (.t 153)⟩])
    (.cond (.t 152) (.ops [⟨some 154, none, .mv (.t 7)⟩,
      ⟨some 155, none, .mv (.t 13)⟩,
      ⟨some 156, none, .bsl ty_int [.i .i64 0] 2 [(0, 1, .k (.i .i64 0)), (1, 1, .k (.i .i64 9))]⟩,
      ⟨some 157, none, .mv (.t 0)⟩,
      ⟨some 158, none, .call (.k (.fn n_spec_l20Rd_pick [] [])) [.t 157, .k (.i .i64 2)]⟩,
      ⟨some 159, none, .ia 1 (.t 156) (.t 158)⟩,
      ⟨some 160, none, .ld (.t 159)⟩,
      ⟨some 161, none, .ia 4 (.t 154) (.t 155)⟩,
      ⟨some 162, none, .fa 3 (.t 161)⟩,
      ⟨none, none, .st 1 (.t 162) (.t 160)⟩])
    (.seq (.ops [⟨some 164, none, .bin .eql (.t 102) (.k (.i .i64 4))⟩,
      ⟨some 163, none, .mv (.t 164)⟩])
    (.cond (.t 163) (.ops [⟨some 165, none, .mv (.t 7)⟩,
      ⟨some 166, none, .mv (.t 7)⟩,
      ⟨some 167, none, .mv (.t 13)⟩,
      ⟨some 168, none, .ia 4 (.t 166) (.t 167)⟩,
      ⟨some 169, none, .ldn 4 (.t 168)⟩,
      ⟨some 170, none, .bsl ty_impl_Job [.i .i64 0, .i .i64 0, .i .i64 0, .i .i64 0] 1 [(0, 4, .t 169)]⟩,
      ⟨some 171, none, .app ty_impl_Job 4 32 (.t 165) (.t 170)⟩,
      ⟨some 7, none, .mv (.t 171)⟩])
    (.block 5 (.loop l0_spec_l20Jobs)))))))))))))))
    (.skip)))
    (.seq (.ops [⟨some 172, none, .mv (.t 7)⟩,
      ⟨some 6, none, .mv (.t 172)⟩])
    (.ret)))))))
theorem k_spec_l20Jobs : chkF Try.prog Try.f68 173 c_spec_l20Jobs [.t 6] = true := by kernel_rfl
theorem call_spec_l20Jobs {args : List AV} {σ : List AB} {K : AV → List AB → Prop} (hn : args.length ≤ 173) (hw : wpC Try.prog σ.length 173 c_spec_l20Jobs (retP σ.length [.t 6] K) ⟨initT 0 args, σ⟩) : CallWp Try.prog n_spec_l20Jobs args σ K := call_fn mixed Try.func68 k_spec_l20Jobs hn hw
def c_impl_isCores : LC := .seq (.ops [⟨some 2, none, .mv (.k (.b false))⟩])
    (.seq (.ops [⟨some 3, none, .mv (.t 0)⟩,
      ⟨some 4, none, .call (.k (.fn n_impl_in [] [])) [.t 3, .k (.i .i64 1), .k (.i .i64 5)]⟩,
      ⟨some 2, none, .mv (.t 4)⟩])
    (.ret))
theorem k_impl_isCores : chkF Try.prog Try.f69 5 c_impl_isCores [.t 2] = true := by kernel_rfl
theorem call_impl_isCores {args : List AV} {σ : List AB} {K : AV → List AB → Prop} (hn : args.length ≤ 5) (hw : wpC Try.prog σ.length 5 c_impl_isCores (retP σ.length [.t 2] K) ⟨initT 0 args, σ⟩) : CallWp Try.prog n_impl_isCores args σ K := call_fn mixed Try.func69 k_impl_isCores hn hw
def c_impl_newMachine : LC := .seq (.ops [⟨some 2, none, .mv (.k (.pn))⟩])
    (.seq (.ops [⟨some 3, none, .mv (.t 0)⟩,
      ⟨some 4, none, .mv (.t 0)⟩,
      ⟨some 5, none, .len (.t 4)⟩,
      ⟨some 6, none, .msl ty_int 8 [.i .i64 0] (.t 5)⟩,
      ⟨some 7, none, .build [.sn, .sn, .i .i64 0] [(0, 1, .t 3), (1, 1, .t 6)]⟩,
      ⟨some 8, none, .box ty_impl_machine (.t 7)⟩,
      ⟨some 2, none, .mv (.t 8)⟩])
    (.ret))
theorem k_impl_newMachine : chkF Try.prog Try.f70 9 c_impl_newMachine [.t 2] = true := by kernel_rfl
theorem call_impl_newMachine {args : List AV} {σ : List AB} {K : AV → List AB → Prop} (hn : args.length ≤ 9) (hw : wpC Try.prog σ.length 9 c_impl_newMachine (retP σ.length [.t 2] K) ⟨initT 0 args, σ⟩) : CallWp Try.prog n_impl_newMachine args σ K := call_fn mixed Try.func70 k_impl_newMachine hn hw
def c_impl_none : LC := .seq (.ops [⟨some 2, none, .mv (.k (.sn))⟩])
    (.seq (.ops [⟨some 3, none, .bsl ty_int [.i .i64 0] 1 [(0, 1, .k (.i .i64 (-1)))]⟩,
      ⟨some 4, none, .mv (.t 0)⟩,
      ⟨some 5, none, .call (.k (.fn n_slices_Repeat_int [] [])) [.t 3, .t 4]⟩,
      ⟨some 2, none, .mv (.t 5)⟩])
    (.ret))
theorem k_impl_none : chkF Try.prog Try.f71 6 c_impl_none [.t 2] = true := by kernel_rfl
theorem call_impl_none {args : List AV} {σ : List AB} {K : AV → List AB → Prop} (hn : args.length ≤ 6) (hw : wpC Try.prog σ.length 6 c_impl_none (retP σ.length [.t 2] K) ⟨initT 0 args, σ⟩) : CallWp Try.prog n_impl_none args σ K := call_fn mixed Try.func71 k_impl_none hn hw
def c_impl_machine_ready : LC := .seq (.ops [⟨some 4, none, .mv (.k (.b false))⟩])
    (.seq (.draw 31 [⟨some 5, none, .mv (.t 0)⟩,
      ⟨some 6, none, .nilc (.t 5)⟩,
      ⟨some 7, none, .fa 0 (.t 6)⟩,
      ⟨some 8, none, .ld (.t 7)⟩,
      ⟨some 9, none, .mv (.t 1)⟩,
      ⟨some 10, none, .ia 4 (.t 8) (.t 9)⟩,
      ⟨some 11, none, .fa 1 (.t 10)⟩,
      ⟨some 12, none, .ld (.t 11)⟩,
      ⟨some 13, none, .mv (.t 0)⟩,
      ⟨some 14, none, .nilc (.t 13)⟩,
      ⟨some 15, none, .fa 2 (.t 14)⟩,
      ⟨some 16, none, .ld (.t 15)⟩,
      ⟨some 17, none, .bin .leq (.t 12) (.t 16)⟩,
      ⟨some 18, none, .mv (.t 17)⟩,
      ⟨some 19, (some (18, true)), .mv (.t 0)⟩,
      ⟨some 20, (some (18, true)), .nilc (.t 19)⟩,
      ⟨some 21, (some (18, true)), .fa 1 (.t 20)⟩,
      ⟨some 22, (some (18, true)), .ld (.t 21)⟩,
      ⟨some 23, (some (18, true)), .mv (.t 1)⟩,
      ⟨some 24, (some (18, true)), .ia 1 (.t 22) (.t 23)⟩,
      ⟨some 25, (some (18, true)), .ld (.t 24)⟩,
      ⟨some 26, (some (18, true)), .mv (.t 0)⟩,
      ⟨some 27, (some (18, true)), .nilc (.t 26)⟩,
      ⟨some 28, (some (18, true)), .fa 0 (.t 27)⟩,
      ⟨some 29, (some (18, true)), .ld (.t 28)⟩,
      ⟨some 30, (some (18, true)), .mv (.t 1)⟩,
      ⟨some 31, (some (18, true)), .ia 4 (.t 29) (.t 30)⟩,
      ⟨some 32, (some (18, true)), .fa 3 (.t 31)⟩,
      ⟨some 33, (some (18, true)), .ld (.t 32)⟩,
      ⟨some 34, (some (18, true)), .bin .lss (.t 25) (.t 33)⟩,
      ⟨some 35, none, .pick (.t 18) (.t 34) (.k (.b false))⟩,
      ⟨some 4, none, .mv (.t 35)⟩])
    (.ret))
theorem k_impl_machine_ready : chkF Try.prog Try.f72 36 c_impl_machine_ready [.t 4] = true := by kernel_rfl
theorem call_impl_machine_ready {args : List AV} {σ : List AB} {K : AV → List AB → Prop} (hn : args.length ≤ 36) (hw : wpC Try.prog σ.length 36 c_impl_machine_ready (retP σ.length [.t 4] K) ⟨initT 0 args, σ⟩) : CallWp Try.prog n_impl_machine_ready args σ K := call_fn mixed Try.func72 k_impl_machine_ready hn hw
def c_slices_SortStableFunc_int : LC := .ops [⟨some 4, none, .mv (.t 0)⟩,
      ⟨some 5, none, .mv (.t 0)⟩,
      ⟨some 6, none, .len (.t 5)⟩,
      ⟨some 7, none, .mv (.t 1)⟩,
      ⟨some 8, none, .call (.k (.fn n_slices_stableCmpFunc_int [] [])) [.t 4, .t 6, .t 7]⟩]
theorem k_slices_SortStableFunc_int : chkF Try.prog Try.f73 9 c_slices_SortStableFunc_int [] = true := by kernel_rfl
theorem call_slices_SortStableFunc_int {args : List AV} {σ : List AB} {K : AV → List AB → Prop} (hn : args.length ≤ 9) (hw : wpC Try.prog σ.length 9 c_slices_SortStableFunc_int (retP σ.length [] K) ⟨initT 0 args, σ⟩) : CallWp Try.prog n_slices_SortStableFunc_int args σ K := call_fn mixed Try.func73 k_slices_SortStableFunc_int hn hw
def c_impl_RunGlobal_1 : LC := .seq (.ops [⟨some 5, none, .mv (.k (.i .i64 0))⟩])
    (.seq (.draw 11 [⟨some 6, none, .ld (.t 2)⟩,
      ⟨some 7, none, .mv (.t 0)⟩,
      ⟨some 8, none, .ia 4 (.t 6) (.t 7)⟩,
      ⟨some 9, none, .fa 2 (.t 8)⟩,
      ⟨some 10, none, .ld (.t 9)⟩,
      ⟨some 11, none, .ld (.t 2)⟩,
      ⟨some 12, none, .mv (.t 1)⟩,
      ⟨some 13, none, .ia 4 (.t 11) (.t 12)⟩,
      ⟨some 14, none, .fa 2 (.t 13)⟩,
      ⟨some 15, none, .ld (.t 14)⟩,
      ⟨some 16, none, .call (.k (.fn n_cmp_Compare_int [] [])) [.t 10, .t 15]⟩,
      ⟨some 5, none, .mv (.t 16)⟩])
    (.ret))
theorem k_impl_RunGlobal_1 : chkF Try.prog Try.f74 17 c_impl_RunGlobal_1 [.t 5] = true := by kernel_rfl
theorem call_impl_RunGlobal_1 {args : List AV} {σ : List AB} {K : AV → List AB → Prop} (hn : args.length ≤ 17) (hw : wpC Try.prog σ.length 17 c_impl_RunGlobal_1 (retP σ.length [.t 5] K) ⟨initT 0 args, σ⟩) : CallWp Try.prog n_impl_RunGlobal_1 args σ K := call_fn mixed Try.func74 k_impl_RunGlobal_1 hn hw
def c_cmp_Compare_int : LC := .seq (.ops [⟨some 4, none, .mv (.k (.i .i64 0))⟩])
    (.seq (.ops [⟨some 7, none, .mv (.t 0)⟩,
      ⟨some 8, none, .call (.k (.fn n_cmp_isNaN_int [] [])) [.t 7]⟩,
      ⟨some 5, none, .mv (.t 8)⟩])
    (.seq (.ops [⟨some 9, none, .mv (.t 1)⟩,
      ⟨some 10, none, .call (.k (.fn n_cmp_isNaN_int [] [])) [.t 9]⟩,
      ⟨some 6, none, .mv (.t 10)⟩])
    (.seq (.seq (.ops [⟨some 11, none, .mv (.t 5)⟩])
    (.cond (.t 11) (.seq (.seq (.ops [⟨some 12, none, .mv (.t 6)⟩])
    (.cond (.t 12) (.seq (.ops [⟨some 4, none, .mv (.k (.i .i64 0))⟩])
    (.ret))
    (.skip)))
    (.seq (.ops [⟨some 4, none, .mv (.k (.i .i64 (-1)))⟩])
    (.ret)))
    (.skip)))
    (.seq (.seq (.ops [⟨some 13, none, .mv (.t 6)⟩])
    (.cond (.t 13) (.seq (.ops [⟨some 4, none, .mv (.k (.i .i64 1))⟩])
    (.ret))
    (.skip)))
    (.seq (.seq (.ops [⟨some 14, none, .mv (.t 0)⟩,
      ⟨some 15, none, .mv (.t 1)⟩,
      ⟨some 16, none, .bin .lss (.t 14) (.t 15)⟩])
    (.cond (.t 16) (.seq (.ops [⟨some 4, none, .mv (.k (.i .i64 (-1)))⟩])
    (.ret))
    (.skip)))
    (.seq (.seq (.ops [⟨some 17, none, .mv (.t 0)⟩,
      ⟨some 18, none, .mv (.t 1)⟩,
      ⟨some 19, none, .bin .gtr (.t 17) (.t 18)⟩])
    (.cond (.t 19) (.seq (.ops [⟨some 4, none, .mv (.k (.i .i64 1))⟩])
    (.ret))
    (.skip)))
    (.seq (.ops [⟨some 4, none, .mv (.k (.i .i64 0))⟩])
    (.ret))))))))
theorem k_cmp_Compare_int : chkF Try.prog Try.f75 20 c_cmp_Compare_int [.t 4] = true := by kernel_rfl
theorem call_cmp_Compare_int {args : List AV} {σ : List AB} {K : AV → List AB → Prop} (hn : args.length ≤ 20) (hw : wpC Try.prog σ.length 20 c_cmp_Compare_int (retP σ.length [.t 4] K) ⟨initT 0 args, σ⟩) : CallWp Try.prog n_cmp_Compare_int args σ K := call_fn mixed Try.func75 k_cmp_Compare_int hn hw
def c_impl_clone_int : LC := .seq (.ops [⟨some 2, none, .mv (.k (.sn))⟩])
    (.seq (.ops [⟨some 3, none, .mv (.t 0)⟩,
      ⟨some 4, none, .call (.k (.fn n_slices_Clone_int [] [])) [.t 3]⟩,
      ⟨some 5, none, .call (.k (.fn n_slices_Clip_int [] [])) [.t 4]⟩,
      ⟨some 2, none, .mv (.t 5)⟩])
    (.ret))
theorem k_impl_clone_int : chkF Try.prog Try.f76 6 c_impl_clone_int [.t 2] = true := by kernel_rfl
theorem call_impl_clone_int {args : List AV} {σ : List AB} {K : AV → List AB → Prop} (hn : args.length ≤ 6) (hw : wpC Try.prog σ.length 6 c_impl_clone_int (retP σ.length [.t 2] K) ⟨initT 0 args, σ⟩) : CallWp Try.prog n_impl_clone_int args σ K := call_fn mixed Try.func76 k_impl_clone_int hn hw
def l0_spec_JobsLegal : LC := .seq (.seq (.ops [⟨some 20, none, .mv (.t 6)⟩,
      ⟨some 21, none, .mv (.t 1)⟩,
      ⟨some 22, none, .len (.t 21)⟩,
      ⟨some 23, none, .bin .lss (.t 20) (.t 22)⟩])
    (.cond (.t 23) (.skip)
    (.exit 0)))
    (.seq (.block 1 (.seq (.ops [⟨some 26, none, .mv (.t 1)⟩,
      ⟨some 27, none, .mv (.t 6)⟩,
      ⟨some 28, none, .ia 4 (.t 26) (.t 27)⟩,
      ⟨some 29, none, .ldn 4 (.t 28)⟩,
      ⟨some 7, none, .alloc ty_impl_Job [.i .i64 0, .i .i64 0, .i .i64 0, .i .i64 0]⟩,
      ⟨none, none, .st 4 (.t 7) (.t 29)⟩])
    (.seq (.seq (.ops [⟨some 30, none, .fa 0 (.t 7)⟩,
      ⟨some 31, none, .ld (.t 30)⟩,
      ⟨some 32, none, .mv (.t 0)⟩,
      ⟨some 33, none, .len (.t 32)⟩,
      ⟨some 34, none, .bin .sub (.t 33) (.k (.i .i64 1))⟩,
      ⟨some 35, none, .call (.k (.fn n_spec_l1In [] [])) [.t 31, .k (.i .i64 0), .t 34]⟩,
      ⟨some 36, none, .not (.t 35)⟩,
      ⟨some 37, none, .mv (.t 36)⟩,
      ⟨some 38, (some (37, false)), .fa 1 (.t 7)⟩,
      ⟨some 39, (some (37, false)), .ld (.t 38)⟩,
      ⟨some 40, (some (37, false)), .call (.k (.fn n_spec_l1In [] [])) [.t 39, .k (.i .i64 0), .k (.i .i64 119)]⟩,
      ⟨some 41, (some (37, false)), .not (.t 40)⟩,
      ⟨some 42, none, .pick (.t 37) (.k (.b true)) (.t 41)⟩])
    (.cond (.t 42) (.seq (.ops [⟨some 4, none, .mv (.k (.b false))⟩])
    (.ret))
    (.skip)))
    (.seq (.ops [⟨some 43, none, .mv (.t 0)⟩,
      ⟨some 44, none, .fa 0 (.t 7)⟩,
      ⟨some 45, none, .ld (.t 44)⟩,
      ⟨some 46, none, .ia 3 (.t 43) (.t 45)⟩,
      ⟨some 47, none, .ldn 3 (.t 46)⟩,
      ⟨some 8, none, .alloc ty_impl_Task [.i .i64 0, .i .i64 0, .i .i64 0]⟩,
      ⟨none, none, .st 3 (.t 8) (.t 47)⟩])
    (.seq (.seq (.draw 26 [⟨some 48, none, .fa 1 (.t 7)⟩,
      ⟨some 49, none, .ld (.t 48)⟩,
      ⟨some 50, none, .mv (.t 5)⟩,
      ⟨some 51, none, .fa 0 (.t 7)⟩,
      ⟨some 52, none, .ld (.t 51)⟩,
      ⟨some 53, none, .ia 1 (.t 50) (.t 52)⟩,
      ⟨some 54, none, .ld (.t 53)⟩,
      ⟨some 55, none, .bin .lss (.t 49) (.t 54)⟩,
      ⟨some 56, none, .mv (.t 55)⟩,
      ⟨some 57, (some (56, false)), .fa 2 (.t 7)⟩,
      ⟨some 58, (some (56, false)), .ld (.t 57)⟩,
      ⟨some 59, (some (56, false)), .fa 1 (.t 7)⟩,
      ⟨some 60, (some (56, false)), .ld (.t 59)⟩,
      ⟨some 61, (some (56, false)), .fa 1 (.t 8)⟩,
      ⟨some 62, (some (56, false)), .ld (.t 61)⟩,
      ⟨some 63, (some (56, false)), .bin .add (.t 60) (.t 62)⟩,
      ⟨some 64, (some (56, false)), .bin .neq (.t 58) (.t 63)⟩,
      ⟨some 65, none, .pick (.t 56) (.k (.b true)) (.t 64)⟩,
      ⟨some 66, none, .mv (.t 65)⟩,
      ⟨some 67, (some (66, false)), .fa 3 (.t 7)⟩,
      ⟨some 68, (some (66, false)), .ld (.t 67)⟩,
      ⟨some 69, (some (66, false)), .fa 0 (.t 8)⟩,
      ⟨some 70, (some (66, false)), .ld (.t 69)⟩,
      ⟨some 71, (some (66, false)), .call (.k (.fn n_spec_l1In [] [])) [.t 68, .k (.i .i64 1), .t 70]⟩,
      ⟨some 72, (some (66, false)), .not (.t 71)⟩,
      ⟨some 73, none, .pick (.t 66) (.k (.b true)) (.t 72)⟩])
    (.cond (.t 73) (.seq (.ops [⟨some 4, none, .mv (.k (.b false))⟩])
    (.ret))
    (.skip)))
    (.seq (.seq (.draw 35 [⟨some 74, none, .mv (.t 6)⟩,
      ⟨some 75, none, .bin .gtr (.t 74) (.k (.i .i64 0))⟩,
      ⟨some 76, none, .mv (.t 75)⟩,
      ⟨some 77, (some (76, true)), .mv (.t 1)⟩,
      ⟨some 78, (some (76, true)), .mv (.t 6)⟩,
      ⟨some 79, (some (76, true)), .bin .sub (.t 78) (.k (.i .i64 1))⟩,
      ⟨some 80, (some (76, true)), .ia 4 (.t 77) (.t 79)⟩,
      ⟨some 81, (some (76, true)), .fa 1 (.t 80)⟩,
      ⟨some 82, (some (76, true)), .ld (.t 81)⟩,
      ⟨some 83, (some (76, true)), .fa 1 (.t 7)⟩,
      ⟨some 84, (some (76, true)), .ld (.t 83)⟩,
      ⟨some 85, (some (76, true)), .bin .gtr (.t 82) (.t 84)⟩,
      ⟨some 86, (some (76, true)), .mv (.t 85)⟩,
      ⟨some 87, (some (86, false)), .mv (.t 1)⟩,
      ⟨some 88, (some (86, false)), .mv (.t 6)⟩,
      ⟨some 89, (some (86, false)), .bin .sub (.t 88) (.k (.i .i64 1))⟩,
      ⟨some 90, (some (86, false)), .ia 4 (.t 87) (.t 89)⟩,
      ⟨some 91, (some (86, false)), .fa 1 (.t 90)⟩,
      ⟨some 92, (some (86, false)), .ld (.t 91)⟩,
      ⟨some 93, (some (86, false)), .fa 1 (.t 7)⟩,
      ⟨some 94, (some (86, false)), .ld (.t 93)⟩,
      ⟨some 95, (some (86, false)), .bin .eql (.t 92) (.t 94)⟩,
      ⟨some 96, (some (86, false)), .mv (.t 95)⟩,
      ⟨some 97, (some (96, true)), .mv (.t 1)⟩,
      ⟨some 98, (some (96, true)), .mv (.t 6)⟩,
      ⟨some 99, (some (96, true)), .bin .sub (.t 98) (.k (.i .i64 1))⟩,
      ⟨some 100, (some (96, true)), .ia 4 (.t 97) (.t 99)⟩,
      ⟨some 101, (some (96, true)), .fa 0 (.t 100)⟩,
      ⟨some 102, (some (96, true)), .ld (.t 101)⟩,
      ⟨some 103, (some (96, true)), .fa 0 (.t 7)⟩,
      ⟨some 104, (some (96, true)), .ld (.t 103)⟩,
      ⟨some 105, (some (96, true)), .bin .geq (.t 102) (.t 104)⟩,
      ⟨some 106, (some (86, false)), .pick (.t 96) (.t 105) (.k (.b false))⟩,
      ⟨some 107, (some (76, true)), .pick (.t 86) (.k (.b true)) (.t 106)⟩,
      ⟨some 108, none, .pick (.t 76) (.t 107) (.k (.b false))⟩])
    (.cond (.t 108) (.seq (.ops [⟨some 4, none, .mv (.k (.b false))⟩])
    (.ret))
    (.skip)))
    (.ops [⟨some 109, none, .mv (.t 5)⟩,
      ⟨some 110, none, .fa 0 (.t 7)⟩,
      ⟨some 111, none, .ld (.t 110)⟩,
      ⟨some 112, none, .fa 1 (.t 7)⟩,
      ⟨some 113, none, .ld (.t 112)⟩,
      ⟨some 114, none, .fa 2 (.t 8)⟩,
      ⟨some 115, none, .ld (.t 114)⟩,
      ⟨some 116, none, .bin .add (.t 113) (.t 115)⟩,
      ⟨some 117, none, .ia 1 (.t 109) (.t 111)⟩,
      ⟨none, none, .st 1 (.t 117) (.t 116)⟩])))))))
    (.ops [⟨some 24, none, .mv (.t 6)⟩,
      ⟨some 25, none, .bin .add (.t 24) (.k (.i .i64 1))⟩,
      ⟨some 6, none, .mv (.t 25)⟩]))
def c_spec_JobsLegal : LC := .seq (.ops [⟨some 4, none, .mv (.k (.b false))⟩])
    (.seq (.seq (.ops [⟨some 9, none, .mv (.t 0)⟩,
      ⟨some 10, none, .call (.k (.fn n_spec_SetValid [] [])) [.t 9]⟩,
      ⟨some 11, none, .not (.t 10)⟩,
      ⟨some 12, none, .mv (.t 11)⟩,
      ⟨some 13, (some (12, false)), .mv (.t 1)⟩,
      ⟨some 14, (some (12, false)), .len (.t 13)⟩,
      ⟨some 15, (some (12, false)), .bin .gtr (.t 14) (.k (.i .i64 60))⟩,
      ⟨some 16, none, .pick (.t 12) (.k (.b true)) (.t 15)⟩])
    (.cond (.t 16) (.seq (.ops [⟨some 4, none, .mv (.k (.b false))⟩])
    (.ret))
    (.skip)))
    (.seq (.ops [⟨some 17, none, .mv (.t 0)⟩,
      ⟨some 18, none, .len (.t 17)⟩,
      ⟨some 19, none, .msl ty_int 8 [.i .i64 0] (.t 18)⟩,
      ⟨some 5, none, .mv (.t 19)⟩])
    (.seq (.seq (.ops [⟨some 6, none, .mv (.k (.i .i64 0))⟩])
    (.block 0 (.loop l0_spec_JobsLegal)))
    (.seq (.ops [⟨some 4, none, .mv (.k (.b true))⟩])
    (.ret)))))
theorem k_spec_JobsLegal : chkF Try.prog Try.f77 118 c_spec_JobsLegal [.t 4] = true := by kernel_rfl
theorem call_spec_JobsLegal {args : List AV} {σ : List AB} {K : AV → List AB → Prop} (hn : args.length ≤ 118) (hw : wpC Try.prog σ.length 118 c_spec_JobsLegal (retP σ.length [.t 4] K) ⟨initT 0 args, σ⟩) : CallWp Try.prog n_spec_JobsLegal args σ K := call_fn mixed Try.func77 k_spec_JobsLegal hn hw
def c_spec_l1In : LC := .seq (.ops [⟨some 6, none, .mv (.k (.b false))⟩])
    (.seq (.ops [⟨some 7, none, .mv (.t 0)⟩,
      ⟨some 8, none, .mv (.t 1)⟩,
      ⟨some 9, none, .bin .geq (.t 7) (.t 8)⟩,
      ⟨some 10, none, .mv (.t 9)⟩,
      ⟨some 11, (some (10, true)), .mv (.t 0)⟩,
      ⟨some 12, (some (10, true)), .mv (.t 2)⟩,
      ⟨some 13, (some (10, true)), .bin .leq (.t 11) (.t 12)⟩,
      ⟨some 14, none, .pick (.t 10) (.t 13) (.k (.b false))⟩,
      ⟨some 6, none, .mv (.t 14)⟩])
    (.ret))
theorem k_spec_l1In : chkF Try.prog Try.f78 15 c_spec_l1In [.t 6] = true := by kernel_rfl
theorem call_spec_l1In {args : List AV} {σ : List AB} {K : AV → List AB → Prop} (hn : args.length ≤ 15) (hw : wpC Try.prog σ.length 15 c_spec_l1In (retP σ.length [.t 6] K) ⟨initT 0 args, σ⟩) : CallWp Try.prog n_spec_l1In args σ K := call_fn mixed Try.func78 k_spec_l1In hn hw
def l0_spec_l3Run : LC := .seq (.seq (.ops [⟨some 31, none, .mv (.t 8)⟩,
      ⟨some 32, none, .bin .lss (.t 31) (.k (.i .i64 120))⟩])
    (.cond (.t 32) (.skip)
    (.exit 2)))
    (.seq (.block 3 (.seq (.ops [⟨some 35, none, .mv (.t 0)⟩,
      ⟨some 36, none, .mv (.t 6)⟩,
      ⟨some 37, none, .mv (.t 1)⟩,
      ⟨some 38, none, .mv (.t 8)⟩,
      ⟨some 39, none, .call (.k (.fn n_spec_l3Best [] [])) [.t 35, .t 36, .t 37, .t 38]⟩,
      ⟨some 9, none, .mv (.t 39)⟩])
    (.seq (.ops [⟨some 40, none, .fa 0 (.t 5)⟩,
      ⟨some 41, none, .ld (.t 40)⟩,
      ⟨some 42, none, .mv (.t 9)⟩,
      ⟨some 43, none, .bsl ty_int [.i .i64 0] 1 [(0, 1, .t 42)]⟩,
      ⟨some 44, none, .app ty_int 1 8 (.t 41) (.t 43)⟩,
      ⟨some 45, none, .fa 0 (.t 5)⟩,
      ⟨none, none, .st 1 (.t 45) (.t 44)⟩])
    (.seq (.ops [⟨some 46, none, .mv (.t 9)⟩,
      ⟨some 47, none, .bin .geq (.t 46) (.k (.i .i64 0))⟩])
    (.cond (.t 47) (.seq (.ops [⟨some 48, none, .mv (.t 6)⟩,
      ⟨some 49, none, .mv (.t 9)⟩,
      ⟨some 50, none, .mv (.t 6)⟩,
      ⟨some 51, none, .mv (.t 9)⟩,
      ⟨some 52, none, .ia 1 (.t 50) (.t 51)⟩,
      ⟨some 53, none, .ld (.t 52)⟩,
      ⟨some 54, none, .bin .sub (.t 53) (.k (.i .i64 1))⟩,
      ⟨some 55, none, .ia 1 (.t 48) (.t 49)⟩,
      ⟨none, none, .st 1 (.t 55) (.t 54)⟩])
    (.seq (.ops [⟨some 56, none, .mv (.t 6)⟩,
      ⟨some 57, none, .mv (.t 9)⟩,
      ⟨some 58, none, .ia 1 (.t 56) (.t 57)⟩,
      ⟨some 59, none, .ld (.t 58)⟩,
      ⟨some 60, none, .bin .eql (.t 59) (.k (.i .i64 0))⟩])
    (.cond (.t 60) (.ops [⟨some 61, none, .fa 1 (.t 5)⟩,
      ⟨some 62, none, .ld (.t 61)⟩,
      ⟨some 63, none, .mv (.t 9)⟩,
      ⟨some 64, none, .mv (.t 8)⟩,
      ⟨some 65, none, .bin .add (.t 64) (.k (.i .i64 1))⟩,
      ⟨some 66, none, .ia 1 (.t 62) (.t 63)⟩,
      ⟨none, none, .st 1 (.t 66) (.t 65)⟩])
    (.skip))))
    (.skip))))))
    (.ops [⟨some 33, none, .mv (.t 8)⟩,
      ⟨some 34, none, .bin .add (.t 33) (.k (.i .i64 1))⟩,
      ⟨some 8, none, .mv (.t 34)⟩]))
def l1_spec_l3Run : LC := .seq (.seq (.ops [⟨some 12, none, .mv (.t 7)⟩,
      ⟨some 13, none, .mv (.t 0)⟩,
      ⟨some 14, none, .len (.t 13)⟩,
      ⟨some 15, none, .bin .lss (.t 12) (.t 14)⟩])
    (.cond (.t 15) (.skip)
    (.exit 0)))
    (.seq (.block 1 (.seq (.ops [⟨some 18, none, .mv (.t 6)⟩,
      ⟨some 19, none, .mv (.t 0)⟩,
      ⟨some 20, none, .mv (.t 7)⟩,
      ⟨some 21, none, .ia 4 (.t 19) (.t 20)⟩,
      ⟨some 22, none, .fa 3 (.t 21)⟩,
      ⟨some 23, none, .ld (.t 22)⟩,
      ⟨some 24, none, .bsl ty_int [.i .i64 0] 1 [(0, 1, .t 23)]⟩,
      ⟨some 25, none, .app ty_int 1 8 (.t 18) (.t 24)⟩,
      ⟨some 6, none, .mv (.t 25)⟩])
    (.ops [⟨some 26, none, .fa 1 (.t 5)⟩,
      ⟨some 27, none, .ld (.t 26)⟩,
      ⟨some 28, none, .bsl ty_int [.i .i64 0] 1 [(0, 1, .k (.i .i64 (-1)))]⟩,
      ⟨some 29, none, .app ty_int 1 8 (.t 27) (.t 28)⟩,
      ⟨some 30, none, .fa 1 (.t 5)⟩,
      ⟨none, none, .st 1 (.t 30) (.t 29)⟩])))
    (.ops [⟨some 16, none, .mv (.t 7)⟩,
      ⟨some 17, none, .bin .add (.t 16) (.k (.i .i64 1))⟩,
      ⟨some 7, none, .mv (.t 17)⟩]))
def c_spec_l3Run : LC := .seq (.ops [⟨some 4, none, .alloc ty_impl_Schedule [.sn, .sn]⟩])
    (.seq (.ops [⟨some 10, none, .build [.sn, .sn] []⟩,
      ⟨some 5, none, .alloc ty_impl_Schedule [.sn, .sn]⟩,
      ⟨none, none, .st 2 (.t 5) (.t 10)⟩])
    (.seq (.ops [⟨some 11, none, .bsl ty_int [.i .i64 0] 0 []⟩,
      ⟨some 6, none, .mv (.t 11)⟩])
    (.seq (.seq (.ops [⟨some 7, none, .mv (.k (.i .i64 0))⟩])
    (.block 0 (.loop l1_spec_l3Run)))
    (.seq (.seq (.ops [⟨some 8, none, .mv (.k (.i .i64 0))⟩])
    (.block 2 (.loop l0_spec_l3Run)))
    (.seq (.ops [⟨some 67, none, .ldn 2 (.t 5)⟩,
      ⟨none, none, .st 2 (.t 4) (.t 67)⟩])
    (.ret))))))
theorem k_spec_l3Run : chkF Try.prog Try.f80 68 c_spec_l3Run [.c 4 (some 2)] = true := by kernel_rfl
theorem call_spec_l3Run {args : List AV} {σ : List AB} {K : AV → List AB → Prop} (hn : args.length ≤ 68) (hw : wpC Try.prog σ.length 68 c_spec_l3Run (retP σ.length [.c 4 (some 2)] K) ⟨initT 0 args, σ⟩) : CallWp Try.prog n_spec_l3Run args σ K := call_fn mixed Try.func80 k_spec_l3Run hn hw
def l0_spec_l3Deadlines : LC := .seq (.seq (.ops [⟨some 6, none, .mv (.t 4)⟩,
      ⟨some 7, none, .mv (.t 0)⟩,
      ⟨some 8, none, .len (.t 7)⟩,
      ⟨some 9, none, .bin .lss (.t 6) (.t 8)⟩])
    (.cond (.t 9) (.skip)
    (.exit 0)))
    (.seq (.block 1 (.ops [⟨some 12, none, .mv (.t 3)⟩,
      ⟨some 13, none, .mv (.t 0)⟩,
      ⟨some 14, none, .mv (.t 4)⟩,
      ⟨some 15, none, .ia 4 (.t 13) (.t 14)⟩,
      ⟨some 16, none, .fa 2 (.t 15)⟩,
      ⟨some 17, none, .ld (.t 16)⟩,
      ⟨some 18, none, .bsl ty_int [.i .i64 0] 1 [(0, 1, .t 17)]⟩,
      ⟨some 19, none, .app ty_int 1 8 (.t 12) (.t 18)⟩,
      ⟨some 3, none, .mv (.t 19)⟩]))
    (.ops [⟨some 10, none, .mv (.t 4)⟩,
      ⟨some 11, none, .bin .add (.t 10) (.k (.i .i64 1))⟩,
      ⟨some 4, none, .mv (.t 11)⟩]))
def c_spec_l3Deadlines : LC := .seq (.ops [⟨some 2, none, .mv (.k (.sn))⟩])
    (.seq (.ops [⟨some 5, none, .bsl ty_int [.i .i64 0] 0 []⟩,
      ⟨some 3, none, .mv (.t 5)⟩])
    (.seq (.seq (.ops [⟨some 4, none, .mv (.k (.i .i64 0))⟩])
    (.block 0 (.loop l0_spec_l3Deadlines)))
    (.seq (.ops [⟨some 20, none, .mv (.t 3)⟩,
      ⟨some 2, none, .mv (.t 20)⟩])
    (.ret))))
theorem k_spec_l3Deadlines : chkF Try.prog Try.f81 21 c_spec_l3Deadlines [.t 2] = true := by kernel_rfl
theorem call_spec_l3Deadlines {args : List AV} {σ : List AB} {K : AV → List AB → Prop} (hn : args.length ≤ 21) (hw : wpC Try.prog σ.length 21 c_spec_l3Deadlines (retP σ.length [.t 2] K) ⟨initT 0 args, σ⟩) : CallWp Try.prog n_spec_l3Deadlines args σ K := call_fn mixed Try.func81 k_spec_l3Deadlines hn hw
def c_impl_SetValid : LC := .seq (.ops [⟨some 2, none, .mv (.k (.b false))⟩])
    (.seq (.ops [⟨some 3, none, .mv (.t 0)⟩,
      ⟨some 4, none, .len (.t 3)⟩,
      ⟨some 5, none, .bin .leq (.t 4) (.k (.i .i64 5))⟩,
      ⟨some 6, none, .mv (.t 5)⟩,
      ⟨some 7, (some (6, true)), .mv (.t 0)⟩,
      ⟨some 8, (some (6, true)), .call (.k (.fn n_slices_ContainsFunc_impl_Task [] [])) [.t 7, .k (.fn n_impl_SetValid_1 [] [])]⟩,
      ⟨some 9, (some (6, true)), .not (.t 8)⟩,
      ⟨some 10, none, .pick (.t 6) (.t 9) (.k (.b false))⟩,
      ⟨some 2, none, .mv (.t 10)⟩])
    (.ret))
theorem k_impl_SetValid : chkF Try.prog Try.f82 11 c_impl_SetValid [.t 2] = true := by kernel_rfl
theorem call_impl_SetValid {args : List AV} {σ : List AB} {K : AV → List AB → Prop} (hn : args.length ≤ 11) (hw : wpC Try.prog σ.length 11 c_impl_SetValid (retP σ.length [.t 2] K) ⟨initT 0 args, σ⟩) : CallWp Try.prog n_impl_SetValid args σ K := call_fn mixed Try.func82 k_impl_SetValid hn hw
def c_spec_l20Rd_pick : LC := .seq (.ops [⟨some 4, none, .mv (.k (.i .i64 0))⟩])
    (.seq (.ops [⟨some 7, none, .mv (.t 0)⟩,
      ⟨some 8, none, .mv (.t 0)⟩,
      ⟨some 9, none, .nilc (.t 8)⟩,
      ⟨some 10, none, .fa 1 (.t 9)⟩,
      ⟨some 11, none, .ld (.t 10)⟩,
      ⟨some 12, none, .bin .add (.t 11) (.k (.i .i64 1))⟩,
      ⟨some 13, none, .nilc (.t 7)⟩,
      ⟨some 14, none, .fa 1 (.t 13)⟩,
      ⟨none, none, .st 1 (.t 14) (.t 12)⟩])
    (.seq (.seq (.ops [⟨some 15, none, .mv (.t 1)⟩,
      ⟨some 16, none, .bin .lss (.t 15) (.k (.i .i64 1))⟩,
      ⟨some 17, none, .mv (.t 16)⟩,
      ⟨some 18, (some (17, false)), .mv (.t 0)⟩,
      ⟨some 19, (some (17, false)), .nilc (.t 18)⟩,
      ⟨some 20, (some (17, false)), .fa 0 (.t 19)⟩,
      ⟨some 21, (some (17, false)), .ld (.t 20)⟩,
      ⟨some 22, (some (17, false)), .len (.t 21)⟩,
      ⟨some 23, (some (17, false)), .bin .eql (.t 22) (.k (.i .i64 0))⟩,
      ⟨some 24, none, .pick (.t 17) (.k (.b true)) (.t 23)⟩])
    (.cond (.t 24) (.seq (.ops [⟨some 4, none, .mv (.k (.i .i64 0))⟩])
    (.ret))
    (.skip)))
    (.seq (.ops [⟨some 25, none, .mv (.t 0)⟩,
      ⟨some 26, none, .nilc (.t 25)⟩,
      ⟨some 27, none, .fa 1 (.t 26)⟩,
      ⟨some 28, none, .ld (.t 27)⟩,
      ⟨some 29, none, .bin .sub (.t 28) (.k (.i .i64 1))⟩,
      ⟨some 5, none, .mv (.t 29)⟩])
    (.seq (.seq (.ops [⟨some 30, none, .mv (.t 5)⟩,
      ⟨some 31, none, .mv (.t 0)⟩,
      ⟨some 32, none, .nilc (.t 31)⟩,
      ⟨some 33, none, .fa 0 (.t 32)⟩,
      ⟨some 34, none, .ld (.t 33)⟩,
      ⟨some 35, none, .len (.t 34)⟩,
      ⟨some 36, none, .bin .lss (.t 30) (.t 35)⟩])
    (.cond (.t 36) (.seq (.ops [⟨some 37, none, .mv (.t 0)⟩,
      ⟨some 38, none, .nilc (.t 37)⟩,
      ⟨some 39, none, .fa 0 (.t 38)⟩,
      ⟨some 40, none, .ld (.t 39)⟩,
      ⟨some 41, none, .mv (.t 5)⟩,
      ⟨some 42, none, .ia 1 (.t 40) (.t 41)⟩,
      ⟨some 43, none, .ld (.t 42)⟩,
      ⟨some 44, none, .conv .i64 (.t 43)⟩,
      ⟨some 45, none, .mv (.t 1)⟩,
      ⟨some 46, none, .bin .rem (.t 44) (.t 45)⟩,
      ⟨some 4, none, .mv (.t 46)⟩])
    (.ret))
    (.skip)))
    (.seq (.draw 45 [⟨some 47, none, .mv (.t 0)⟩,
      ⟨some 48, none, .nilc (.t 47)⟩,
      ⟨some 49, none, .fa 0 (.t 48)⟩,
      ⟨some 50, none, .ld (.t 49)⟩,
      ⟨some 51, none, .mv (.t 5)⟩,
      ⟨some 52, none, .mv (.t 0)⟩,
      ⟨some 53, none, .nilc (.t 52)⟩,
      ⟨some 54, none, .fa 0 (.t 53)⟩,
      ⟨some 55, none, .ld (.t 54)⟩,
      ⟨some 56, none, .len (.t 55)⟩,
      ⟨some 57, none, .bin .rem (.t 51) (.t 56)⟩,
      ⟨some 58, none, .ia 1 (.t 50) (.t 57)⟩,
      ⟨some 59, none, .ld (.t 58)⟩,
      ⟨some 60, none, .conv .i64 (.t 59)⟩,
      ⟨some 61, none, .bin .mul (.t 60) (.k (.i .i64 131))⟩,
      ⟨some 62, none, .mv (.t 0)⟩,
      ⟨some 63, none, .nilc (.t 62)⟩,
      ⟨some 64, none, .fa 0 (.t 63)⟩,
      ⟨some 65, none, .ld (.t 64)⟩,
      ⟨some 66, none, .mv (.t 5)⟩,
      ⟨some 67, none, .bin .mul (.t 66) (.k (.i .i64 7))⟩,
      ⟨some 68, none, .bin .add (.t 67) (.k (.i .i64 3))⟩,
      ⟨some 69, none, .mv (.t 0)⟩,
      ⟨some 70, none, .nilc (.t 69)⟩,
      ⟨some 71, none, .fa 0 (.t 70)⟩,
      ⟨some 72, none, .ld (.t 71)⟩,
      ⟨some 73, none, .len (.t 72)⟩,
      ⟨some 74, none, .bin .rem (.t 68) (.t 73)⟩,
      ⟨some 75, none, .ia 1 (.t 65) (.t 74)⟩,
      ⟨some 76, none, .ld (.t 75)⟩,
      ⟨some 77, none, .conv .i64 (.t 76)⟩,
      ⟨some 78, none, .bin .mul (.t 77) (.k (.i .i64 1117))⟩,
      ⟨some 79, none, .bin .add (.t 61) (.t 78)⟩,
      ⟨some 80, none, .mv (.t 5)⟩,
      ⟨some 81, none, .bin .mul (.t 80) (.k (.i .i64 29))⟩,
      ⟨some 82, none, .bin .add (.t 79) (.t 81)⟩,
      ⟨some 83, none, .mv (.t 5)⟩,
      ⟨some 84, none, .mv (.t 0)⟩,
      ⟨some 85, none, .nilc (.t 84)⟩,
      ⟨some 86, none, .fa 0 (.t 85)⟩,
      ⟨some 87, none, .ld (.t 86)⟩,
      ⟨some 88, none, .len (.t 87)⟩,
      ⟨some 89, none, .bin .quo (.t 83) (.t 88)⟩,
      ⟨some 90, none, .bin .mul (.t 89) (.k (.i .i64 53))⟩,
      ⟨some 91, none, .bin .add (.t 82) (.t 90)⟩,
      ⟨some 6, none, .mv (.t 91)⟩])
    (.seq (.ops [⟨some 92, none, .mv (.t 6)⟩,
      ⟨some 93, none, .mv (.t 6)⟩,
      ⟨some 94, none, .bin .quo (.t 93) (.k (.i .i64 64))⟩,
      ⟨some 95, none, .bin .xor (.t 92) (.t 94)⟩,
      ⟨some 6, none, .mv (.t 95)⟩])
    (.seq (.ops [⟨some 96, none, .mv (.t 6)⟩,
      ⟨some 97, none, .mv (.t 1)⟩,
      ⟨some 98, none, .bin .rem (.t 96) (.t 97)⟩,
      ⟨some 4, none, .mv (.t 98)⟩])
    (.ret))))))))
theorem k_spec_l20Rd_pick : chkF Try.prog Try.f83 99 c_spec_l20Rd_pick [.t 4] = true := by kernel_rfl
theorem call_spec_l20Rd_pick {args : List AV} {σ : List AB} {K : AV → List AB → Prop} (hn : args.length ≤ 99) (hw : wpC Try.prog σ.length 99 c_spec_l20Rd_pick (retP σ.length [.t 4] K) ⟨initT 0 args, σ⟩) : CallWp Try.prog n_spec_l20Rd_pick args σ K := call_fn mixed Try.func83 k_spec_l20Rd_pick hn hw
def c_spec_l20Rd_odd : LC := .seq (.ops [⟨some 4, none, .mv (.k (.b false))⟩])
    (.seq (.ops [⟨some 5, none, .mv (.t 1)⟩,
      ⟨some 6, none, .bin .gtr (.t 5) (.k (.i .i64 0))⟩,
      ⟨some 7, none, .mv (.t 6)⟩,
      ⟨some 8, (some (7, true)), .mv (.t 0)⟩,
      ⟨some 9, (some (7, true)), .mv (.t 1)⟩,
      ⟨some 10, (some (7, true)), .call (.k (.fn n_spec_l20Rd_pick [] [])) [.t 8, .t 9]⟩,
      ⟨some 11, (some (7, true)), .mv (.t 1)⟩,
      ⟨some 12, (some (7, true)), .bin .sub (.t 11) (.k (.i .i64 1))⟩,
      ⟨some 13, (some (7, true)), .bin .eql (.t 10) (.t 12)⟩,
      ⟨some 14, none, .pick (.t 7) (.t 13) (.k (.b false))⟩,
      ⟨some 4, none, .mv (.t 14)⟩])
    (.ret))
theorem k_spec_l20Rd_odd : chkF Try.prog Try.f84 15 c_spec_l20Rd_odd [.t 4] = true := by kernel_rfl
theorem call_spec_l20Rd_odd {args : List AV} {σ : List AB} {K : AV → List AB → Prop} (hn : args.length ≤ 15) (hw : wpC Try.prog σ.length 15 c_spec_l20Rd_odd (retP σ.length [.t 4] K) ⟨initT 0 args, σ⟩) : CallWp Try.prog n_spec_l20Rd_odd args σ K := call_fn mixed Try.func84 k_spec_l20Rd_odd hn hw
def l0_impl_ordered : LC := .seq (.ops [⟨some 12, none, .bin .lss (.t 11) (.t 10)⟩])
    (.seq (.cond (.t 12) (.skip)
    (.exit 0))
    (.seq (.block 1 (.seq (.ops [⟨some 13, none, .mv (.t 11)⟩,
      ⟨some 14, none, .ia 4 (.t 9) (.t 11)⟩,
      ⟨some 15, none, .ldn 4 (.t 14)⟩,
      ⟨some 8, none, .alloc ty_impl_Job [.i .i64 0, .i .i64 0, .i .i64 0, .i .i64 0]⟩,
      ⟨some 7, none, .mv (.t 13)⟩,
      ⟨none, none, .st 4 (.t 8) (.t 15)⟩])
    (.seq (.seq (.draw 22 [⟨some 16, none, .fa 0 (.t 8)⟩,
      ⟨some 17, none, .ld (.t 16)⟩,
      ⟨some 18, none, .mv (.t 1)⟩,
      ⟨some 19, none, .bin .sub (.t 18) (.k (.i .i64 1))⟩,
      ⟨some 20, none, .call (.k (.fn n_impl_in [] [])) [.t 17, .k (.i .i64 0), .t 19]⟩,
      ⟨some 21, none, .not (.t 20)⟩,
      ⟨some 22, none, .mv (.t 21)⟩,
      ⟨some 23, (some (22, false)), .fa 1 (.t 8)⟩,
      ⟨some 24, (some (22, false)), .ld (.t 23)⟩,
      ⟨some 25, (some (22, false)), .call (.k (.fn n_impl_in [] [])) [.t 24, .k (.i .i64 0), .k (.i .i64 119)]⟩,
      ⟨some 26, (some (22, false)), .not (.t 25)⟩,
      ⟨some 27, none, .pick (.t 22) (.k (.b true)) (.t 26)⟩,
      ⟨some 28, none, .mv (.t 27)⟩,
      ⟨some 29, (some (28, false)), .fa 3 (.t 8)⟩,
      ⟨some 30, (some (28, false)), .ld (.t 29)⟩,
      ⟨some 31, (some (28, false)), .mv (.t 2)⟩,
      ⟨some 32, (some (28, false)), .fa 0 (.t 8)⟩,
      ⟨some 33, (some (28, false)), .ld (.t 32)⟩,
      ⟨some 34, (some (28, false)), .call (.t 31) [.t 33]⟩,
      ⟨some 35, (some (28, false)), .call (.k (.fn n_impl_in [] [])) [.t 30, .k (.i .i64 1), .t 34]⟩,
      ⟨some 36, (some (28, false)), .not (.t 35)⟩,
      ⟨some 37, none, .pick (.t 28) (.k (.b true)) (.t 36)⟩])
    (.cond (.t 37) (.seq (.ops [⟨some 6, none, .mv (.k (.b false))⟩])
    (.ret))
    (.skip)))
    (.seq (.draw 35 [⟨some 38, none, .mv (.t 7)⟩,
      ⟨some 39, none, .bin .gtr (.t 38) (.k (.i .i64 0))⟩,
      ⟨some 40, none, .mv (.t 39)⟩,
      ⟨some 41, (some (40, true)), .mv (.t 0)⟩,
      ⟨some 42, (some (40, true)), .mv (.t 7)⟩,
      ⟨some 43, (some (40, true)), .bin .sub (.t 42) (.k (.i .i64 1))⟩,
      ⟨some 44, (some (40, true)), .ia 4 (.t 41) (.t 43)⟩,
      ⟨some 45, (some (40, true)), .fa 1 (.t 44)⟩,
      ⟨some 46, (some (40, true)), .ld (.t 45)⟩,
      ⟨some 47, (some (40, true)), .fa 1 (.t 8)⟩,
      ⟨some 48, (some (40, true)), .ld (.t 47)⟩,
      ⟨some 49, (some (40, true)), .bin .gtr (.t 46) (.t 48)⟩,
      ⟨some 50, (some (40, true)), .mv (.t 49)⟩,
      ⟨some 51, (some (50, false)), .mv (.t 0)⟩,
      ⟨some 52, (some (50, false)), .mv (.t 7)⟩,
      ⟨some 53, (some (50, false)), .bin .sub (.t 52) (.k (.i .i64 1))⟩,
      ⟨some 54, (some (50, false)), .ia 4 (.t 51) (.t 53)⟩,
      ⟨some 55, (some (50, false)), .fa 1 (.t 54)⟩,
      ⟨some 56, (some (50, false)), .ld (.t 55)⟩,
      ⟨some 57, (some (50, false)), .fa 1 (.t 8)⟩,
      ⟨some 58, (some (50, false)), .ld (.t 57)⟩,
      ⟨some 59, (some (50, false)), .bin .eql (.t 56) (.t 58)⟩,
      ⟨some 60, (some (50, false)), .mv (.t 59)⟩,
      ⟨some 61, (some (60, true)), .mv (.t 0)⟩,
      ⟨some 62, (some (60, true)), .mv (.t 7)⟩,
      ⟨some 63, (some (60, true)), .bin .sub (.t 62) (.k (.i .i64 1))⟩,
      ⟨some 64, (some (60, true)), .ia 4 (.t 61) (.t 63)⟩,
      ⟨some 65, (some (60, true)), .fa 0 (.t 64)⟩,
      ⟨some 66, (some (60, true)), .ld (.t 65)⟩,
      ⟨some 67, (some (60, true)), .fa 0 (.t 8)⟩,
      ⟨some 68, (some (60, true)), .ld (.t 67)⟩,
      ⟨some 69, (some (60, true)), .bin .geq (.t 66) (.t 68)⟩,
      ⟨some 70, (some (50, false)), .pick (.t 60) (.t 69) (.k (.b false))⟩,
      ⟨some 71, (some (40, true)), .pick (.t 50) (.k (.b true)) (.t 70)⟩,
      ⟨some 72, none, .pick (.t 40) (.t 71) (.k (.b false))⟩])
    (.cond (.t 72) (.seq (.ops [⟨some 6, none, .mv (.k (.b false))⟩])
    (.ret))
    (.skip))))))
    (.ops [⟨some 73, none, .bin .add (.t 11) (.k (.i .i64 1))⟩,
      ⟨some 11, none, .mv (.t 73)⟩])))
def c_impl_ordered : LC := .seq (.ops [⟨some 6, none, .mv (.k (.b false))⟩])
    (.seq (.seq (.ops [⟨some 9, none, .mv (.t 0)⟩,
      ⟨some 10, none, .len (.t 9)⟩,
      ⟨some 11, none, .mv (.k (.i .i64 0))⟩])
    (.block 0 (.loop l0_impl_ordered)))
    (.seq (.ops [⟨some 74, none, .mv (.t 0)⟩,
      ⟨some 75, none, .len (.t 74)⟩,
      ⟨some 76, none, .bin .leq (.t 75) (.k (.i .i64 60))⟩,
      ⟨some 6, none, .mv (.t 76)⟩])
    (.ret)))
theorem k_impl_ordered : chkF Try.prog Try.f87 77 c_impl_ordered [.t 6] = true := by kernel_rfl
theorem callC_impl_ordered {args : List AV} {σ : List AB} {K : AV → List AB → Prop} (hn : args.length ≤ 77) (hw : Closed σ → args.all (below1 σ.length) = true → wpC Try.prog σ.length 77 c_impl_ordered (retP σ.length [.t 6] K) ⟨initT 0 args, σ⟩) : CallWp Try.prog n_impl_ordered args σ K := call_fnC mixed Try.func87 k_impl_ordered hn hw
def l0_impl_spaced : LC := .seq (.ops [⟨some 17, none, .bin .lss (.t 16) (.t 15)⟩])
    (.seq (.cond (.t 17) (.skip)
    (.exit 0))
    (.seq (.block 1 (.seq (.ops [⟨some 18, none, .ia 4 (.t 14) (.t 16)⟩,
      ⟨some 19, none, .ldn 4 (.t 18)⟩,
      ⟨some 9, none, .alloc ty_impl_Job [.i .i64 0, .i .i64 0, .i .i64 0, .i .i64 0]⟩,
      ⟨none, none, .st 4 (.t 9) (.t 19)⟩])
    (.seq (.ops [⟨some 20, none, .mv (.t 1)⟩,
      ⟨some 21, none, .ldn 4 (.t 9)⟩,
      ⟨some 22, none, .call (.t 20) [.t 21]⟩,
      ⟨some 10, none, .mv (.t 22)⟩])
    (.seq (.seq (.ops [⟨some 24, none, .mv (.t 7)⟩,
      ⟨some 25, none, .fa 0 (.t 9)⟩,
      ⟨some 26, none, .ld (.t 25)⟩,
      ⟨some 27, none, .lk 3 3 (.t 24) (.t 26)⟩,
      ⟨some 23, none, .mv (.t 27)⟩,
      ⟨some 28, none, .ext 0 (.t 23)⟩,
      ⟨some 29, none, .ext 1 (.t 23)⟩,
      ⟨some 11, none, .mv (.t 28)⟩,
      ⟨some 12, none, .mv (.t 29)⟩])
    (.seq (.ops [⟨some 30, none, .mv (.t 12)⟩,
      ⟨some 31, none, .mv (.t 30)⟩,
      ⟨some 32, (some (31, true)), .mv (.t 10)⟩,
      ⟨some 33, (some (31, true)), .mv (.t 11)⟩,
      ⟨some 34, (some (31, true)), .bin .sub (.t 32) (.t 33)⟩,
      ⟨some 35, (some (31, true)), .mv (.t 2)⟩,
      ⟨some 36, (some (31, true)), .fa 0 (.t 9)⟩,
      ⟨some 37, (some (31, true)), .ld (.t 36)⟩,
      ⟨some 38, (some (31, true)), .call (.t 35) [.t 37]⟩,
      ⟨some 39, (some (31, true)), .bin .lss (.t 34) (.t 38)⟩,
      ⟨some 40, none, .pick (.t 31) (.t 39) (.k (.b false))⟩])
    (.cond (.t 40) (.seq (.ops [⟨some 6, none, .mv (.k (.b false))⟩])
    (.ret))
    (.skip))))
    (.ops [⟨some 41, none, .mv (.t 7)⟩,
      ⟨some 42, none, .fa 0 (.t 9)⟩,
      ⟨some 43, none, .ld (.t 42)⟩,
      ⟨some 44, none, .mv (.t 10)⟩,
      ⟨none, none, .mup 3 3 (.t 41) (.t 43) (.t 44)⟩])))))
    (.ops [⟨some 45, none, .bin .add (.t 16) (.k (.i .i64 1))⟩,
      ⟨some 16, none, .mv (.t 45)⟩])))
def c_impl_spaced : LC := .seq (.ops [⟨some 6, none, .mv (.k (.b false))⟩])
    (.seq (.ops [⟨some 13, none, .mkm 3 3⟩,
      ⟨some 7, none, .mv (.t 13)⟩])
    (.seq (.seq (.ops [⟨some 14, none, .mv (.t 0)⟩,
      ⟨some 15, none, .len (.t 14)⟩,
      ⟨some 16, none, .mv (.k (.i .i64 0))⟩])
    (.block 0 (.loop l0_impl_spaced)))
    (.seq (.ops [⟨some 6, none, .mv (.k (.b true))⟩])
    (.ret))))
theorem k_impl_spaced : chkF Try.prog Try.f89 46 c_impl_spaced [.t 6] = true := by kernel_rfl
theorem callC_impl_spaced {args : List AV} {σ : List AB} {K : AV → List AB → Prop} (hn : args.length ≤ 46) (hw : Closed σ → args.all (below1 σ.length) = true → wpC Try.prog σ.length 46 c_impl_spaced (retP σ.length [.t 6] K) ⟨initT 0 args, σ⟩) : CallWp Try.prog n_impl_spaced args σ K := call_fnC mixed Try.func89 k_impl_spaced hn hw
def c_impl_release : LC := .seq (.ops [⟨some 1, none, .box ty_impl_Job (.t 0)⟩,
      ⟨some 2, none, .mv (.k (.i .i64 0))⟩])
    (.seq (.ops [⟨some 3, none, .fa 1 (.t 1)⟩,
      ⟨some 4, none, .ld (.t 3)⟩,
      ⟨some 2, none, .mv (.t 4)⟩])
    (.ret))
theorem k_impl_release : chkF Try.prog Try.f90 5 c_impl_release [.t 2] = true := by kernel_rfl
theorem call_impl_release {args : List AV} {σ : List AB} {K : AV → List AB → Prop} (hn : args.length ≤ 5) (hw : wpC Try.prog σ.length 5 c_impl_release (retP σ.length [.t 2] K) ⟨initT 0 args, σ⟩) : CallWp Try.prog n_impl_release args σ K := call_fn mixed Try.func90 k_impl_release hn hw
def c_slices_ContainsFunc_impl_Job : LC := .seq (.ops [⟨some 4, none, .mv (.k (.b false))⟩])
    (.seq (.ops [⟨some 5, none, .mv (.t 0)⟩,
      ⟨some 6, none, .mv (.t 1)⟩,
      ⟨some 7, none, .call (.k (.fn n_slices_IndexFunc_impl_Job [] [])) [.t 5, .t 6]⟩,
      ⟨some 8, none, .bin .geq (.t 7) (.k (.i .i64 0))⟩,
      ⟨some 4, none, .mv (.t 8)⟩])
    (.ret))
theorem k_slices_ContainsFunc_impl_Job : chkF Try.prog Try.f92 9 c_slices_ContainsFunc_impl_Job [.t 4] = true := by kernel_rfl
theorem call_slices_ContainsFunc_impl_Job {args : List AV} {σ : List AB} {K : AV → List AB → Prop} (hn : args.length ≤ 9) (hw : wpC Try.prog σ.length 9 c_slices_ContainsFunc_impl_Job (retP σ.length [.t 4] K) ⟨initT 0 args, σ⟩) : CallWp Try.prog n_slices_ContainsFunc_impl_Job args σ K := call_fn mixed Try.func92 k_slices_ContainsFunc_impl_Job hn hw
def l0_impl_machine_best : LC := .seq (.ops [⟨some 15, none, .bin .lss (.t 14) (.t 13)⟩])
    (.seq (.cond (.t 15) (.skip)
    (.exit 0))
    (.seq (.block 1 (.seq (.ops [⟨some 16, none, .mv (.t 14)⟩,
      ⟨some 8, none, .mv (.t 16)⟩])
    (.seq (.ops [⟨some 17, none, .mv (.t 0)⟩,
      ⟨some 18, none, .mv (.t 8)⟩,
      ⟨some 19, none, .call (.k (.fn n_impl_machine_ready [] [])) [.t 17, .t 18]⟩,
      ⟨some 20, none, .mv (.t 19)⟩,
      ⟨some 21, (some (20, true)), .mv (.t 2)⟩,
      ⟨some 22, (some (20, true)), .mv (.t 8)⟩,
      ⟨some 23, (some (20, true)), .call (.t 21) [.t 22]⟩,
      ⟨some 24, none, .pick (.t 20) (.t 23) (.k (.b false))⟩,
      ⟨some 25, none, .mv (.t 24)⟩,
      ⟨some 26, (some (25, true)), .mv (.t 7)⟩,
      ⟨some 27, (some (25, true)), .bin .lss (.t 26) (.k (.i .i64 0))⟩,
      ⟨some 28, (some (25, true)), .mv (.t 27)⟩,
      ⟨some 29, (some (28, false)), .mv (.t 1)⟩,
      ⟨some 30, (some (28, false)), .mv (.t 8)⟩,
      ⟨some 31, (some (28, false)), .call (.t 29) [.t 30]⟩,
      ⟨some 32, (some (28, false)), .mv (.t 1)⟩,
      ⟨some 33, (some (28, false)), .mv (.t 7)⟩,
      ⟨some 34, (some (28, false)), .call (.t 32) [.t 33]⟩,
      ⟨some 35, (some (28, false)), .bin .lss (.t 31) (.t 34)⟩,
      ⟨some 36, (some (25, true)), .pick (.t 28) (.k (.b true)) (.t 35)⟩,
      ⟨some 37, none, .pick (.t 25) (.t 36) (.k (.b false))⟩])
    (.cond (.t 37) (.ops [⟨some 38, none, .mv (.t 8)⟩,
      ⟨some 7, none, .mv (.t 38)⟩])
    (.skip)))))
    (.ops [⟨some 39, none, .bin .add (.t 14) (.k (.i .i64 1))⟩,
      ⟨some 14, none, .mv (.t 39)⟩])))
def c_impl_machine_best : LC := .seq (.ops [⟨some 6, none, .mv (.k (.i .i64 0))⟩])
    (.seq (.ops [⟨some 7, none, .mv (.k (.i .i64 (-1)))⟩])
    (.seq (.seq (.ops [⟨some 9, none, .mv (.t 0)⟩,
      ⟨some 10, none, .nilc (.t 9)⟩,
      ⟨some 11, none, .fa 0 (.t 10)⟩,
      ⟨some 12, none, .ld (.t 11)⟩,
      ⟨some 13, none, .len (.t 12)⟩,
      ⟨some 14, none, .mv (.k (.i .i64 0))⟩])
    (.block 0 (.loop l0_impl_machine_best)))
    (.seq (.ops [⟨some 40, none, .mv (.t 7)⟩,
      ⟨some 6, none, .mv (.t 40)⟩])
    (.ret))))
theorem k_impl_machine_best : chkF Try.prog Try.f96 41 c_impl_machine_best [.t 6] = true := by kernel_rfl
theorem call_impl_machine_best {args : List AV} {σ : List AB} {K : AV → List AB → Prop} (hn : args.length ≤ 41) (hw : wpC Try.prog σ.length 41 c_impl_machine_best (retP σ.length [.t 6] K) ⟨initT 0 args, σ⟩) : CallWp Try.prog n_impl_machine_best args σ K := call_fn mixed Try.func96 k_impl_machine_best hn hw
def c_impl_machine_deadline : LC := .seq (.ops [⟨some 4, none, .mv (.k (.i .i64 0))⟩])
    (.seq (.ops [⟨some 5, none, .mv (.t 0)⟩,
      ⟨some 6, none, .nilc (.t 5)⟩,
      ⟨some 7, none, .fa 0 (.t 6)⟩,
      ⟨some 8, none, .ld (.t 7)⟩,
      ⟨some 9, none, .mv (.t 1)⟩,
      ⟨some 10, none, .ia 4 (.t 8) (.t 9)⟩,
      ⟨some 11, none, .fa 2 (.t 10)⟩,
      ⟨some 12, none, .ld (.t 11)⟩,
      ⟨some 4, none, .mv (.t 12)⟩])
    (.ret))
theorem k_impl_machine_deadline : chkF Try.prog Try.f97 13 c_impl_machine_deadline [.t 4] = true := by kernel_rfl
theorem call_impl_machine_deadline {args : List AV} {σ : List AB} {K : AV → List AB → Prop} (hn : args.length ≤ 13) (hw : wpC Try.prog σ.length 13 c_impl_machine_deadline (retP σ.length [.t 4] K) ⟨initT 0 args, σ⟩) : CallWp Try.prog n_impl_machine_deadline args σ K := call_fn mixed Try.func97 k_impl_machine_deadline hn hw
def c_impl_in : LC := .seq (.ops [⟨some 6, none, .mv (.k (.b false))⟩])
    (.seq (.ops [⟨some 7, none, .mv (.t 0)⟩,
      ⟨some 8, none, .mv (.t 1)⟩,
      ⟨some 9, none, .bin .geq (.t 7) (.t 8)⟩,
      ⟨some 10, none, .mv (.t 9)⟩,
      ⟨some 11, (some (10, true)), .mv (.t 0)⟩,
      ⟨some 12, (some (10, true)), .mv (.t 2)⟩,
      ⟨some 13, (some (10, true)), .bin .leq (.t 11) (.t 12)⟩,
      ⟨some 14, none, .pick (.t 10) (.t 13) (.k (.b false))⟩,
      ⟨some 6, none, .mv (.t 14)⟩])
    (.ret))
theorem k_impl_in : chkF Try.prog Try.f103 15 c_impl_in [.t 6] = true := by kernel_rfl
theorem call_impl_in {args : List AV} {σ : List AB} {K : AV → List AB → Prop} (hn : args.length ≤ 15) (hw : wpC Try.prog σ.length 15 c_impl_in (retP σ.length [.t 6] K) ⟨initT 0 args, σ⟩) : CallWp Try.prog n_impl_in args σ K := call_fn mixed Try.func103 k_impl_in hn hw
def c_slices_Clip_int : LC := .seq (.ops [⟨some 2, none, .mv (.k (.sn))⟩])
    (.seq (.ops [⟨some 3, none, .mv (.t 0)⟩,
      ⟨some 4, none, .mv (.t 0)⟩,
      ⟨some 5, none, .len (.t 4)⟩,
      ⟨some 6, none, .mv (.t 0)⟩,
      ⟨some 7, none, .len (.t 6)⟩,
      ⟨some 8, none, .slc 1 (.t 3) none (some (.t 5)) (some (.t 7))⟩,
      ⟨some 2, none, .mv (.t 8)⟩])
    (.ret))
theorem k_slices_Clip_int : chkF Try.prog Try.f104 9 c_slices_Clip_int [.t 2] = true := by kernel_rfl
theorem call_slices_Clip_int {args : List AV} {σ : List AB} {K : AV → List AB → Prop} (hn : args.length ≤ 9) (hw : wpC Try.prog σ.length 9 c_slices_Clip_int (retP σ.length [.t 2] K) ⟨initT 0 args, σ⟩) : CallWp Try.prog n_slices_Clip_int args σ K := call_fn mixed Try.func104 k_slices_Clip_int hn hw
def c_impl_JobsLegal_1 : LC := .seq (.ops [⟨some 3, none, .mv (.k (.i .i64 0))⟩])
    (.seq (.ops [⟨some 4, none, .ld (.t 1)⟩,
      ⟨some 5, none, .mv (.t 0)⟩,
      ⟨some 6, none, .ia 3 (.t 4) (.t 5)⟩,
      ⟨some 7, none, .fa 0 (.t 6)⟩,
      ⟨some 8, none, .ld (.t 7)⟩,
      ⟨some 3, none, .mv (.t 8)⟩])
    (.ret))
theorem k_impl_JobsLegal_1 : chkF Try.prog Try.f105 9 c_impl_JobsLegal_1 [.t 3] = true := by kernel_rfl
theorem call_impl_JobsLegal_1 {args : List AV} {σ : List AB} {K : AV → List AB → Prop} (hn : args.length ≤ 9) (hw : wpC Try.prog σ.length 9 c_impl_JobsLegal_1 (retP σ.length [.t 3] K) ⟨initT 0 args, σ⟩) : CallWp Try.prog n_impl_JobsLegal_1 args σ K := call_fn mixed Try.func105 k_impl_JobsLegal_1 hn hw
def c_impl_JobsLegal_2 : LC := .seq (.ops [⟨some 3, none, .mv (.k (.i .i64 0))⟩])
    (.seq (.ops [⟨some 4, none, .ld (.t 1)⟩,
      ⟨some 5, none, .mv (.t 0)⟩,
      ⟨some 6, none, .ia 3 (.t 4) (.t 5)⟩,
      ⟨some 7, none, .fa 2 (.t 6)⟩,
      ⟨some 8, none, .ld (.t 7)⟩,
      ⟨some 3, none, .mv (.t 8)⟩])
    (.ret))
theorem k_impl_JobsLegal_2 : chkF Try.prog Try.f106 9 c_impl_JobsLegal_2 [.t 3] = true := by kernel_rfl
theorem call_impl_JobsLegal_2 {args : List AV} {σ : List AB} {K : AV → List AB → Prop} (hn : args.length ≤ 9) (hw : wpC Try.prog σ.length 9 c_impl_JobsLegal_2 (retP σ.length [.t 3] K) ⟨initT 0 args, σ⟩) : CallWp Try.prog n_impl_JobsLegal_2 args σ K := call_fn mixed Try.func106 k_impl_JobsLegal_2 hn hw
def c_impl_JobsLegal_3 : LC := .seq (.ops [⟨some 2, none, .box ty_impl_Job (.t 0)⟩,
      ⟨some 3, none, .mv (.k (.b false))⟩])
    (.seq (.draw 12 [⟨some 4, none, .fa 2 (.t 2)⟩,
      ⟨some 5, none, .ld (.t 4)⟩,
      ⟨some 6, none, .fa 1 (.t 2)⟩,
      ⟨some 7, none, .ld (.t 6)⟩,
      ⟨some 8, none, .ld (.t 1)⟩,
      ⟨some 9, none, .fa 0 (.t 2)⟩,
      ⟨some 10, none, .ld (.t 9)⟩,
      ⟨some 11, none, .ia 3 (.t 8) (.t 10)⟩,
      ⟨some 12, none, .fa 1 (.t 11)⟩,
      ⟨some 13, none, .ld (.t 12)⟩,
      ⟨some 14, none, .bin .add (.t 7) (.t 13)⟩,
      ⟨some 15, none, .bin .neq (.t 5) (.t 14)⟩,
      ⟨some 3, none, .mv (.t 15)⟩])
    (.ret))
theorem k_impl_JobsLegal_3 : chkF Try.prog Try.f107 16 c_impl_JobsLegal_3 [.t 3] = true := by kernel_rfl
theorem callC_impl_JobsLegal_3 {args : List AV} {σ : List AB} {K : AV → List AB → Prop} (hn : args.length ≤ 16) (hw : Closed σ → args.all (below1 σ.length) = true → wpC Try.prog σ.length 16 c_impl_JobsLegal_3 (retP σ.length [.t 3] K) ⟨initT 0 args, σ⟩) : CallWp Try.prog n_impl_JobsLegal_3 args σ K := call_fnC mixed Try.func107 k_impl_JobsLegal_3 hn hw
def c_impl_machine_any : LC := .seq (.ops [⟨some 4, none, .mv (.k (.b false))⟩])
    (.seq (.ops [⟨some 4, none, .mv (.k (.b true))⟩])
    (.ret))
theorem k_impl_machine_any : chkF Try.prog Try.f108 5 c_impl_machine_any [.t 4] = true := by kernel_rfl
theorem call_impl_machine_any {args : List AV} {σ : List AB} {K : AV → List AB → Prop} (hn : args.length ≤ 5) (hw : wpC Try.prog σ.length 5 c_impl_machine_any (retP σ.length [.t 4] K) ⟨initT 0 args, σ⟩) : CallWp Try.prog n_impl_machine_any args σ K := call_fn mixed Try.func108 k_impl_machine_any hn hw
def c_spec_l20Task : LC := .seq (.ops [⟨some 4, none, .alloc ty_impl_Task [.i .i64 0, .i .i64 0, .i .i64 0]⟩])
    (.seq (.ops [⟨some 6, none, .mv (.t 0)⟩,
      ⟨some 7, none, .call (.k (.fn n_spec_l20Rd_pick [] [])) [.t 6, .k (.i .i64 12)]⟩,
      ⟨some 8, none, .bin .add (.k (.i .i64 1)) (.t 7)⟩,
      ⟨some 9, none, .bsl ty_int [.i .i64 0] 8 [(0, 1, .k (.i .i64 2)), (1, 1, .k (.i .i64 3)), (2, 1, .k (.i .i64 4)), (3, 1, .k (.i .i64 6)), (4, 1, .k (.i .i64 8)), (5, 1, .k (.i .i64 12)), (6, 1, .t 8), (7, 1, .k (.i .i64 5))]⟩,
      ⟨some 10, none, .mv (.t 0)⟩,
      ⟨some 11, none, .call (.k (.fn n_spec_l20Rd_pick [] [])) [.t 10, .k (.i .i64 8)]⟩,
      ⟨some 12, none, .ia 1 (.t 9) (.t 11)⟩,
      ⟨some 13, none, .ld (.t 12)⟩,
      ⟨some 14, none, .build [.i .i64 0, .i .i64 0, .i .i64 0] [(2, 1, .t 13)]⟩,
      ⟨some 5, none, .alloc ty_impl_Task [.i .i64 0, .i .i64 0, .i .i64 0]⟩,
      ⟨none, none, .st 3 (.t 5) (.t 14)⟩])
    (.join (.plan [0, 1, 2, 3, 4, 7, 8, 9, 10, 12] [⟨some 15, none, .fa 2 (.t 5)⟩,
      ⟨some 16, none, .ld (.t 15)⟩,
      ⟨some 17, none, .mv (.t 0)⟩,
      ⟨some 18, none, .fa 2 (.t 5)⟩,
      ⟨some 19, none, .ld (.t 18)⟩,
      ⟨some 22, none, .fa 2 (.t 5)⟩,
      ⟨some 23, none, .ld (.t 22)⟩,
      ⟨some 24, none, .bin .sub (.t 23) (.k (.i .i64 1))⟩,
      ⟨some 25, none, .mx (.k (.i .i64 1)) (.t 24)⟩,
      ⟨some 27, none, .mv (.t 0)⟩]
      (.one 5 ⟨some 20, none, .call (.k (.fn n_spec_l20Rd_pick [] [])) [.t 17, .t 19]⟩ [(16, none, 15), (23, none, 22)] [6]
        [⟨some 21, none, .bin .add (.k (.i .i64 1)) (.t 20)⟩]
      (.alt (.one 11 ⟨some 26, none, .bsl ty_int [.i .i64 0] 3 [(0, 1, .t 16), (1, 1, .t 21), (2, 1, .t 25)]⟩ [(19, none, 18), (23, none, 22)] []
        []
      (.one 13 ⟨some 28, none, .call (.k (.fn n_spec_l20Rd_pick [] [])) [.t 27, .k (.i .i64 3)]⟩ [(16, none, 15), (19, none, 18), (23, none, 22)] [14, 15, 16]
        [⟨some 29, none, .ia 1 (.t 26) (.t 28)⟩,
        ⟨some 30, none, .ld (.t 29)⟩,
        ⟨some 31, none, .fa 1 (.t 5)⟩]
      (.one 17 ⟨none, none, .st 1 (.t 31) (.t 30)⟩ [] []
        []
      .fin))) (.one 13 ⟨some 28, none, .call (.k (.fn n_spec_l20Rd_pick [] [])) [.t 27, .k (.i .i64 3)]⟩ [(16, none, 15), (19, none, 18), (23, none, 22)] []
        []
      (.one 11 ⟨some 26, none, .bsl ty_int [.i .i64 0] 3 [(0, 1, .t 16), (1, 1, .t 21), (2, 1, .t 25)]⟩ [(19, none, 18), (23, none, 22)] [14, 15, 16]
        [⟨some 29, none, .ia 1 (.t 26) (.t 28)⟩,
        ⟨some 30, none, .ld (.t 29)⟩,
        ⟨some 31, none, .fa 1 (.t 5)⟩]
      (.one 17 ⟨none, none, .st 1 (.t 31) (.t 30)⟩ [] []
        []
      .fin))))))
    (.join (.plan [0, 1, 2, 3, 4, 5, 6, 7, 8, 9, 10, 12] [⟨some 32, none, .mv (.t 0)⟩,
      ⟨some 33, none, .fa 1 (.t 5)⟩,
      ⟨some 34, none, .ld (.t 33)⟩,
      ⟨some 35, none, .fa 1 (.t 5)⟩,
      ⟨some 36, none, .ld (.t 35)⟩,
      ⟨some 37, none, .bin .quo (.t 36) (.k (.i .i64 2))⟩,
      ⟨some 38, none, .mx (.k (.i .i64 1)) (.t 37)⟩,
      ⟨some 39, none, .fa 1 (.t 5)⟩,
      ⟨some 40, none, .ld (.t 39)⟩,
      ⟨some 41, none, .bin .quo (.t 40) (.k (.i .i64 3))⟩,
      ⟨some 42, none, .mx (.k (.i .i64 1)) (.t 41)⟩,
      ⟨some 44, none, .mv (.t 0)⟩]
      (.alt (.one 11 ⟨some 43, none, .bsl ty_int [.i .i64 0] 3 [(0, 1, .t 34), (1, 1, .t 38), (2, 1, .t 42)]⟩ [(36, none, 35), (40, none, 39)] []
        []
      (.one 13 ⟨some 45, none, .call (.k (.fn n_spec_l20Rd_pick [] [])) [.t 44, .k (.i .i64 3)]⟩ [(34, none, 33), (36, none, 35), (40, none, 39)] [14, 15, 16]
        [⟨some 46, none, .ia 1 (.t 43) (.t 45)⟩,
        ⟨some 47, none, .ld (.t 46)⟩,
        ⟨some 48, none, .mn (.k (.i .i64 8)) (.t 47)⟩]
      (.one 17 ⟨some 49, none, .call (.k (.fn n_spec_l20Rd_pick [] [])) [.t 32, .t 48]⟩ [(34, none, 33), (36, none, 35), (40, none, 39), (47, none, 46)] [18, 19]
        [⟨some 50, none, .bin .add (.k (.i .i64 1)) (.t 49)⟩,
        ⟨some 51, none, .fa 0 (.t 5)⟩]
      (.one 20 ⟨none, none, .st 1 (.t 51) (.t 50)⟩ [] []
        []
      .fin)))) (.one 13 ⟨some 45, none, .call (.k (.fn n_spec_l20Rd_pick [] [])) [.t 44, .k (.i .i64 3)]⟩ [(34, none, 33), (36, none, 35), (40, none, 39)] []
        []
      (.one 11 ⟨some 43, none, .bsl ty_int [.i .i64 0] 3 [(0, 1, .t 34), (1, 1, .t 38), (2, 1, .t 42)]⟩ [(36, none, 35), (40, none, 39)] [14, 15, 16]
        [⟨some 46, none, .ia 1 (.t 43) (.t 45)⟩,
        ⟨some 47, none, .ld (.t 46)⟩,
        ⟨some 48, none, .mn (.k (.i .i64 8)) (.t 47)⟩]
      (.one 17 ⟨some 49, none, .call (.k (.fn n_spec_l20Rd_pick [] [])) [.t 32, .t 48]⟩ [(34, none, 33), (36, none, 35), (40, none, 39), (47, none, 46)] [18, 19]
        [⟨some 50, none, .bin .add (.k (.i .i64 1)) (.t 49)⟩,
        ⟨some 51, none, .fa 0 (.t 5)⟩]
      (.one 20 ⟨none, none, .st 1 (.t 51) (.t 50)⟩ [] []
        []
      .fin))))))
    (.join (.seq (.ops [⟨some 52, none, .mv (.t 0)⟩,
      ⟨some 53, none, .mv (.t 1)⟩,
      ⟨some 54, none, .call (.k (.fn n_spec_l20Rd_odd [] [])) [.t 52, .t 53]⟩])
    (.cond (.t 54) (.seq (.ops [⟨some 55, none, .mv (.t 0)⟩,
      ⟨some 56, none, .call (.k (.fn n_spec_l20Rd_pick [] [])) [.t 55, .k (.i .i64 3)]⟩])
    (.block 0 (.seq (.ops [⟨some 64, none, .bin .eql (.t 56) (.k (.i .i64 0))⟩,
      ⟨some 63, none, .mv (.t 64)⟩])
    (.cond (.t 63) (.plan [0, 1, 2, 4] [⟨some 65, none, .fa 1 (.t 5)⟩,
      ⟨some 66, none, .ld (.t 65)⟩,
      ⟨some 67, none, .bin .add (.t 66) (.k (.i .i64 1))⟩,
      ⟨some 69, none, .mv (.t 0)⟩]
      (.alt (.one 3 ⟨some 68, none, .bsl ty_int [.i .i64 0] 4 [(0, 1, .k (.i .i64 0)), (1, 1, .k (.i .i64 (-1))), (2, 1, .k (.i .i64 9)), (3, 1, .t 67)]⟩ [(66, none, 65)] []
        []
      (.one 5 ⟨some 70, none, .call (.k (.fn n_spec_l20Rd_pick [] [])) [.t 69, .k (.i .i64 4)]⟩ [(66, none, 65)] [6, 7, 8]
        [⟨some 71, none, .ia 1 (.t 68) (.t 70)⟩,
        ⟨some 72, none, .ld (.t 71)⟩,
        ⟨some 73, none, .fa 0 (.t 5)⟩]
      (.one 9 ⟨none, none, .st 1 (.t 73) (.t 72)⟩ [] []
        []
      .fin))) (.one 5 ⟨some 70, none, .call (.k (.fn n_spec_l20Rd_pick [] [])) [.t 69, .k (.i .i64 4)]⟩ [(66, none, 65)] []
        []
      (.one 3 ⟨some 68, none, .bsl ty_int [.i .i64 0] 4 [(0, 1, .k (.i .i64 0)), (1, 1, .k (.i .i64 (-1))), (2, 1, .k (.i .i64 9)), (3, 1, .t 67)]⟩ [(66, none, 65)] [6, 7, 8]
        [⟨some 71, none, .ia 1 (.t 68) (.t 70)⟩,
        ⟨some 72, none, .ld (.t 71)⟩,
        ⟨some 73, none, .fa 0 (.t 5)⟩]
      (.one 9 ⟨none, none, .st 1 (.t 73) (.t 72)⟩ [] []
        []
      .fin)))))
    (.seq (.ops [⟨some 75, none, .bin .eql (.t 56) (.k (.i .i64 1))⟩,
      ⟨some 74, none, .mv (.t 75)⟩])
    (.cond (.t 74) (.plan [0, 1, 2, 4] [⟨some 76, none, .fa 2 (.t 5)⟩,
      ⟨some 77, none, .ld (.t 76)⟩,
      ⟨some 78, none, .bin .add (.t 77) (.k (.i .i64 1))⟩,
      ⟨some 80, none, .mv (.t 0)⟩]
      (.alt (.one 3 ⟨some 79, none, .bsl ty_int [.i .i64 0] 3 [(0, 1, .k (.i .i64 0)), (1, 1, .t 78), (2, 1, .k (.i .i64 (-1)))]⟩ [(77, none, 76)] []
        []
      (.one 5 ⟨some 81, none, .call (.k (.fn n_spec_l20Rd_pick [] [])) [.t 80, .k (.i .i64 3)]⟩ [(77, none, 76)] [6, 7, 8]
        [⟨some 82, none, .ia 1 (.t 79) (.t 81)⟩,
        ⟨some 83, none, .ld (.t 82)⟩,
        ⟨some 84, none, .fa 1 (.t 5)⟩]
      (.one 9 ⟨none, none, .st 1 (.t 84) (.t 83)⟩ [] []
        []
      .fin))) (.one 5 ⟨some 81, none, .call (.k (.fn n_spec_l20Rd_pick [] [])) [.t 80, .k (.i .i64 3)]⟩ [(77, none, 76)] []
        []
      (.one 3 ⟨some 79, none, .bsl ty_int [.i .i64 0] 3 [(0, 1, .k (.i .i64 0)), (1, 1, .t 78), (2, 1, .k (.i .i64 (-1)))]⟩ [(77, none, 76)] [6, 7, 8]
        [⟨some 82, none, .ia 1 (.t 79) (.t 81)⟩,
        ⟨some 83, none, .ld (.t 82)⟩,
        ⟨some 84, none, .fa 1 (.t 5)⟩]
      (.one 9 ⟨none, none, .st 1 (.t 84) (.t 83)⟩ [] []
        []
      .fin)))))
    (.ops [⟨some 57, none, .bsl ty_int [.i .i64 0] 3 [(0, 1, .k (.i .i64 0)), (1, 1, .k (.i .i64 13)), (2, 1, .k (.i .i64 (-1)))]⟩,
      ⟨some 58, none, .mv (.t 0)⟩,
      ⟨some 59, none, .call (.k (.fn n_spec_l20Rd_pick [] [])) [.t 58, .k (.i .i64 3)]⟩,
      ⟨some 60, none, .ia 1 (.t 57) (.t 59)⟩,
      ⟨some 61, none, .ld (.t 60)⟩,
      ⟨some 62, none, .fa 2 (.t 5)⟩,
      ⟨none, none, .st 1 (.t 62) (.t 61)⟩])))))))
    (.skip)))
    (.seq (.ops [⟨some 85, none, .ldn 3 (.t 5)⟩,
      ⟨none, none, .st 3 (.t 4) (.t 85)⟩])
    (.ret))))))
theorem k_spec_l20Task : chkF Try.prog Try.f109 86 c_spec_l20Task [.c 4 (some 3)] = true := by kernel_rfl
theorem call_spec_l20Task {args : List AV} {σ : List AB} {K : AV → List AB → Prop} (hn : args.length ≤ 86) (hw : wpC Try.prog σ.length 86 c_spec_l20Task (retP σ.length [.c 4 (some 3)] K) ⟨initT 0 args, σ⟩) : CallWp Try.prog n_spec_l20Task args σ K := call_fn mixed Try.func109 k_spec_l20Task hn hw
def c_spec_TaskValid : LC := .seq (.ops [⟨some 1, none, .box ty_impl_Task (.t 0)⟩,
      ⟨some 2, none, .mv (.k (.b false))⟩])
    (.seq (.ops [⟨some 3, none, .fa 0 (.t 1)⟩,
      ⟨some 4, none, .ld (.t 3)⟩,
      ⟨some 5, none, .call (.k (.fn n_spec_l1In [] [])) [.t 4, .k (.i .i64 1), .k (.i .i64 8)]⟩,
      ⟨some 6, none, .mv (.t 5)⟩,
      ⟨some 7, (some (6, true)), .fa 1 (.t 1)⟩,
      ⟨some 8, (some (6, true)), .ld (.t 7)⟩,
      ⟨some 9, (some (6, true)), .fa 0 (.t 1)⟩,
      ⟨some 10, (some (6, true)), .ld (.t 9)⟩,
      ⟨some 11, (some (6, true)), .fa 2 (.t 1)⟩,
      ⟨some 12, (some (6, true)), .ld (.t 11)⟩,
      ⟨some 13, (some (6, true)), .call (.k (.fn n_spec_l1In [] [])) [.t 8, .t 10, .t 12]⟩,
      ⟨some 14, none, .pick (.t 6) (.t 13) (.k (.b false))⟩,
      ⟨some 15, none, .mv (.t 14)⟩,
      ⟨some 16, (some (15, true)), .fa 2 (.t 1)⟩,
      ⟨some 17, (some (15, true)), .ld (.t 16)⟩,
      ⟨some 18, (some (15, true)), .call (.k (.fn n_spec_l1In [] [])) [.t 17, .k (.i .i64 1), .k (.i .i64 12)]⟩,
      ⟨some 19, none, .pick (.t 15) (.t 18) (.k (.b false))⟩,
      ⟨some 2, none, .mv (.t 19)⟩])
    (.ret))
theorem k_spec_TaskValid : chkF Try.prog Try.f110 20 c_spec_TaskValid [.t 2] = true := by kernel_rfl
theorem call_spec_TaskValid {args : List AV} {σ : List AB} {K : AV → List AB → Prop} (hn : args.length ≤ 20) (hw : wpC Try.prog σ.length 20 c_spec_TaskValid (retP σ.length [.t 2] K) ⟨initT 0 args, σ⟩) : CallWp Try.prog n_spec_TaskValid args σ K := call_fn mixed Try.func110 k_spec_TaskValid hn hw
def l0_slices_Repeat_int : LC := .seq (.seq (.ops [⟨some 34, none, .mv (.t 8)⟩,
      ⟨some 35, none, .mv (.t 7)⟩,
      ⟨some 36, none, .len (.t 35)⟩,
      ⟨some 37, none, .bin .lss (.t 34) (.t 36)⟩])
    (.cond (.t 37) (.skip)
    (.exit 0)))
    (.block 1 (.plan [0, 1, 2, 3, 4, 5, 6] [⟨some 38, none, .mv (.t 8)⟩,
      ⟨some 39, none, .mv (.t 7)⟩,
      ⟨some 40, none, .mv (.t 8)⟩,
      ⟨some 41, none, .slc 1 (.t 39) (some (.t 40)) none none⟩,
      ⟨some 42, none, .mv (.t 7)⟩,
      ⟨some 43, none, .mv (.t 8)⟩,
      ⟨some 44, none, .slc 1 (.t 42) none (some (.t 43)) none⟩]
      (.one 7 ⟨some 45, none, .copy (.t 41) (.t 44)⟩ [] [8]
        [⟨some 46, none, .bin .add (.t 38) (.t 45)⟩]
      (.one 9 ⟨some 8, none, .mv (.t 46)⟩ [] []
        []
      .fin))))
def c_slices_Repeat_int : LC := .seq (.ops [⟨some 4, none, .mv (.k (.sn))⟩])
    (.seq (.seq (.ops [⟨some 9, none, .mv (.t 1)⟩,
      ⟨some 10, none, .bin .lss (.t 9) (.k (.i .i64 0))⟩])
    (.cond (.t 10) (.ops [⟨some 11, none, .die⟩,
      ⟨none, none, .die⟩])
    (.skip)))
    (.seq (.ops [⟨some 13, none, .mv (.t 0)⟩,
      ⟨some 14, none, .len (.t 13)⟩,
      ⟨some 15, none, .conv .u64 (.t 14)⟩,
      ⟨some 16, none, .mv (.t 1)⟩,
      ⟨some 17, none, .conv .u64 (.t 16)⟩,
      ⟨some 18, none, .call (.k (.fn n_math_bits_Mul [] [])) [.t 15, .t 17]⟩,
      ⟨some 12, none, .mv (.t 18)⟩,
      ⟨some 19, none, .ext 0 (.t 12)⟩,
      ⟨some 20, none, .ext 1 (.t 12)⟩,
      ⟨some 5, none, .mv (.t 19)⟩,
      ⟨some 6, none, .mv (.t 20)⟩])
    (.seq (.seq (.ops [⟨some 21, none, .mv (.t 5)⟩,
      ⟨some 22, none, .bin .gtr (.t 21) (.k (.i .u64 0))⟩,
      ⟨some 23, none, .mv (.t 22)⟩,
      ⟨some 24, (some (23, false)), .mv (.t 6)⟩,
      ⟨some 25, (some (23, false)), .bin .gtr (.t 24) (.k (.i .u64 9223372036854775807))⟩,
      ⟨some 26, none, .pick (.t 23) (.k (.b true)) (.t 25)⟩])
    (.cond (.t 26) (.ops [⟨some 27, none, .die⟩,
      ⟨none, none, .die⟩])
    (.skip)))
    (.seq (.ops [⟨some 28, none, .mv (.t 6)⟩,
      ⟨some 29, none, .conv .i64 (.t 28)⟩,
      ⟨some 30, none, .msl ty_int 8 [.i .i64 0] (.t 29)⟩,
      ⟨some 7, none, .mv (.t 30)⟩])
    (.seq (.ops [⟨some 31, none, .mv (.t 7)⟩,
      ⟨some 32, none, .mv (.t 0)⟩,
      ⟨some 33, none, .copy (.t 31) (.t 32)⟩,
      ⟨some 8, none, .mv (.t 33)⟩])
    (.seq (.block 0 (.loop l0_slices_Repeat_int))
    (.seq (.ops [⟨some 47, none, .mv (.t 7)⟩,
      ⟨some 4, none, .mv (.t 47)⟩])
    (.ret))))))))
theorem k_slices_Repeat_int : chkF Try.prog Try.f111 48 c_slices_Repeat_int [.t 4] = true := by kernel_rfl
theorem call_slices_Repeat_int {args : List AV} {σ : List AB} {K : AV → List AB → Prop} (hn : args.length ≤ 48) (hw : wpC Try.prog σ.length 48 c_slices_Repeat_int (retP σ.length [.t 4] K) ⟨initT 0 args, σ⟩) : CallWp Try.prog n_slices_Repeat_int args σ K := call_fn mixed Try.func111 k_slices_Repeat_int hn hw
def c_cmp_isNaN_int : LC := .seq (.ops [⟨some 2, none, .mv (.k (.b false))⟩])
    (.seq (.ops [⟨some 3, none, .mv (.t 0)⟩,
      ⟨some 4, none, .mv (.t 0)⟩,
      ⟨some 5, none, .bin .neq (.t 3) (.t 4)⟩,
      ⟨some 2, none, .mv (.t 5)⟩])
    (.ret))
theorem k_cmp_isNaN_int : chkF Try.prog Try.f113 6 c_cmp_isNaN_int [.t 2] = true := by kernel_rfl
theorem call_cmp_isNaN_int {args : List AV} {σ : List AB} {K : AV → List AB → Prop} (hn : args.length ≤ 6) (hw : wpC Try.prog σ.length 6 c_cmp_isNaN_int (retP σ.length [.t 2] K) ⟨initT 0 args, σ⟩) : CallWp Try.prog n_cmp_isNaN_int args σ K := call_fn mixed Try.func113 k_cmp_isNaN_int hn hw
def c_slices_Clone_int : LC := .seq (.ops [⟨some 2, none, .mv (.k (.sn))⟩])
    (.seq (.seq (.ops [⟨some 3, none, .mv (.t 0)⟩,
      ⟨some 4, none, .snil (.t 3)⟩])
    (.cond (.t 4) (.seq (.ops [⟨some 2, none, .mv (.k (.sn))⟩])
    (.ret))
    (.skip)))
    (.seq (.ops [⟨some 5, none, .bsl ty_int [.i .i64 0] 0 []⟩,
      ⟨some 6, none, .mv (.t 0)⟩,
      ⟨some 7, none, .appf ty_int 1 8 (.t 5) (.t 6)⟩,
      ⟨some 2, none, .mv (.t 7)⟩])
    (.ret)))
theorem k_slices_Clone_int : chkF Try.prog Try.f114 8 c_slices_Clone_int [.t 2] = true := by kernel_rfl
theorem call_slices_Clone_int {args : List AV} {σ : List AB} {K : AV → List AB → Prop} (hn : args.length ≤ 8) (hw : wpC Try.prog σ.length 8 c_slices_Clone_int (retP σ.length [.t 2] K) ⟨initT 0 args, σ⟩) : CallWp Try.prog n_slices_Clone_int args σ K := call_fn mixed Try.func114 k_slices_Clone_int hn hw
def l0_spec_l3Best : LC := .seq (.seq (.ops [⟨some 11, none, .mv (.t 10)⟩,
      ⟨some 12, none, .mv (.t 0)⟩,
      ⟨some 13, none, .len (.t 12)⟩,
      ⟨some 14, none, .bin .lss (.t 11) (.t 13)⟩])
    (.cond (.t 14) (.skip)
    (.exit 0)))
    (.seq (.block 1 (.seq (.draw 29 [⟨some 17, none, .mv (.t 0)⟩,
      ⟨some 18, none, .mv (.t 10)⟩,
      ⟨some 19, none, .ia 4 (.t 17) (.t 18)⟩,
      ⟨some 20, none, .fa 1 (.t 19)⟩,
      ⟨some 21, none, .ld (.t 20)⟩,
      ⟨some 22, none, .mv (.t 3)⟩,
      ⟨some 23, none, .bin .leq (.t 21) (.t 22)⟩,
      ⟨some 24, none, .mv (.t 23)⟩,
      ⟨some 25, (some (24, true)), .mv (.t 1)⟩,
      ⟨some 26, (some (24, true)), .mv (.t 10)⟩,
      ⟨some 27, (some (24, true)), .ia 1 (.t 25) (.t 26)⟩,
      ⟨some 28, (some (24, true)), .ld (.t 27)⟩,
      ⟨some 29, (some (24, true)), .bin .gtr (.t 28) (.k (.i .i64 0))⟩,
      ⟨some 30, none, .pick (.t 24) (.t 29) (.k (.b false))⟩,
      ⟨some 31, none, .mv (.t 30)⟩,
      ⟨some 32, (some (31, true)), .mv (.t 9)⟩,
      ⟨some 33, (some (31, true)), .bin .lss (.t 32) (.k (.i .i64 0))⟩,
      ⟨some 34, (some (31, true)), .mv (.t 33)⟩,
      ⟨some 35, (some (34, false)), .mv (.t 2)⟩,
      ⟨some 36, (some (34, false)), .mv (.t 10)⟩,
      ⟨some 37, (some (34, false)), .ia 1 (.t 35) (.t 36)⟩,
      ⟨some 38, (some (34, false)), .ld (.t 37)⟩,
      ⟨some 39, (some (34, false)), .mv (.t 2)⟩,
      ⟨some 40, (some (34, false)), .mv (.t 9)⟩,
      ⟨some 41, (some (34, false)), .ia 1 (.t 39) (.t 40)⟩,
      ⟨some 42, (some (34, false)), .ld (.t 41)⟩,
      ⟨some 43, (some (34, false)), .bin .lss (.t 38) (.t 42)⟩,
      ⟨some 44, (some (31, true)), .pick (.t 34) (.k (.b true)) (.t 43)⟩,
      ⟨some 45, none, .pick (.t 31) (.t 44) (.k (.b false))⟩])
    (.cond (.t 45) (.ops [⟨some 46, none, .mv (.t 10)⟩,
      ⟨some 9, none, .mv (.t 46)⟩])
    (.skip))))
    (.ops [⟨some 15, none, .mv (.t 10)⟩,
      ⟨some 16, none, .bin .add (.t 15) (.k (.i .i64 1))⟩,
      ⟨some 10, none, .mv (.t 16)⟩]))
def c_spec_l3Best : LC := .seq (.ops [⟨some 8, none, .mv (.k (.i .i64 0))⟩])
    (.seq (.ops [⟨some 9, none, .mv (.k (.i .i64 (-1)))⟩])
    (.seq (.seq (.ops [⟨some 10, none, .mv (.k (.i .i64 0))⟩])
    (.block 0 (.loop l0_spec_l3Best)))
    (.seq (.ops [⟨some 47, none, .mv (.t 9)⟩,
      ⟨some 8, none, .mv (.t 47)⟩])
    (.ret))))
theorem k_spec_l3Best : chkF Try.prog Try.f116 48 c_spec_l3Best [.t 8] = true := by kernel_rfl
theorem call_spec_l3Best {args : List AV} {σ : List AB} {K : AV → List AB → Prop} (hn : args.length ≤ 48) (hw : wpC Try.prog σ.length 48 c_spec_l3Best (retP σ.length [.t 8] K) ⟨initT 0 args, σ⟩) : CallWp Try.prog n_spec_l3Best args σ K := call_fn mixed Try.func116 k_spec_l3Best hn hw
def c_slices_ContainsFunc_impl_Task : LC := .seq (.ops [⟨some 4, none, .mv (.k (.b false))⟩])
    (.seq (.ops [⟨some 5, none, .mv (.t 0)⟩,
      ⟨some 6, none, .mv (.t 1)⟩,
      ⟨some 7, none, .call (.k (.fn n_slices_IndexFunc_impl_Task [] [])) [.t 5, .t 6]⟩,
      ⟨some 8, none, .bin .geq (.t 7) (.k (.i .i64 0))⟩,
      ⟨some 4, none, .mv (.t 8)⟩])
    (.ret))
theorem k_slices_ContainsFunc_impl_Task : chkF Try.prog Try.f117 9 c_slices_ContainsFunc_impl_Task [.t 4] = true := by kernel_rfl
theorem call_slices_ContainsFunc_impl_Task {args : List AV} {σ : List AB} {K : AV → List AB → Prop} (hn : args.length ≤ 9) (hw : wpC Try.prog σ.length 9 c_slices_ContainsFunc_impl_Task (retP σ.length [.t 4] K) ⟨initT 0 args, σ⟩) : CallWp Try.prog n_slices_ContainsFunc_impl_Task args σ K := call_fn mixed Try.func117 k_slices_ContainsFunc_impl_Task hn hw
def c_impl_SetValid_1 : LC := .seq (.ops [⟨some 1, none, .box ty_impl_Task (.t 0)⟩,
      ⟨some 2, none, .mv (.k (.b false))⟩])
    (.seq (.ops [⟨some 3, none, .ldn 3 (.t 1)⟩,
      ⟨some 4, none, .call (.k (.fn n_impl_TaskValid [] [])) [.t 3]⟩,
      ⟨some 5, none, .not (.t 4)⟩,
      ⟨some 2, none, .mv (.t 5)⟩])
    (.ret))
theorem k_impl_SetValid_1 : chkF Try.prog Try.f118 6 c_impl_SetValid_1 [.t 2] = true := by kernel_rfl
theorem call_impl_SetValid_1 {args : List AV} {σ : List AB} {K : AV → List AB → Prop} (hn : args.length ≤ 6) (hw : wpC Try.prog σ.length 6 c_impl_SetValid_1 (retP σ.length [.t 2] K) ⟨initT 0 args, σ⟩) : CallWp Try.prog n_impl_SetValid_1 args σ K := call_fn mixed Try.func118 k_impl_SetValid_1 hn hw
def l0_slices_IndexFunc_impl_Job : LC := .seq (.ops [⟨some 9, none, .bin .lss (.t 8) (.t 7)⟩])
    (.seq (.cond (.t 9) (.skip)
    (.exit 0))
    (.seq (.block 1 (.seq (.ops [⟨some 10, none, .mv (.t 8)⟩,
      ⟨some 5, none, .mv (.t 10)⟩])
    (.seq (.ops [⟨some 11, none, .mv (.t 1)⟩,
      ⟨some 12, none, .mv (.t 0)⟩,
      ⟨some 13, none, .mv (.t 5)⟩,
      ⟨some 14, none, .ia 4 (.t 12) (.t 13)⟩,
      ⟨some 15, none, .ldn 4 (.t 14)⟩,
      ⟨some 16, none, .call (.t 11) [.t 15]⟩])
    (.cond (.t 16) (.seq (.ops [⟨some 17, none, .mv (.t 5)⟩,
      ⟨some 4, none, .mv (.t 17)⟩])
    (.ret))
    (.skip)))))
    (.ops [⟨some 18, none, .bin .add (.t 8) (.k (.i .i64 1))⟩,
      ⟨some 8, none, .mv (.t 18)⟩])))
def c_slices_IndexFunc_impl_Job : LC := .seq (.ops [⟨some 4, none, .mv (.k (.i .i64 0))⟩])
    (.seq (.seq (.ops [⟨some 6, none, .mv (.t 0)⟩,
      ⟨some 7, none, .len (.t 6)⟩,
      ⟨some 8, none, .mv (.k (.i .i64 0))⟩])
    (.block 0 (.loop l0_slices_IndexFunc_impl_Job)))
    (.seq (.ops [⟨some 4, none, .mv (.k (.i .i64 (-1)))⟩])
    (.ret)))
theorem k_slices_IndexFunc_impl_Job : chkF Try.prog Try.f122 19 c_slices_IndexFunc_impl_Job [.t 4] = true := by kernel_rfl
theorem call_slices_IndexFunc_impl_Job {args : List AV} {σ : List AB} {K : AV → List AB → Prop} (hn : args.length ≤ 19) (hw : wpC Try.prog σ.length 19 c_slices_IndexFunc_impl_Job (retP σ.length [.t 4] K) ⟨initT 0 args, σ⟩) : CallWp Try.prog n_slices_IndexFunc_impl_Job args σ K := call_fn mixed Try.func122 k_slices_IndexFunc_impl_Job hn hw
def c_math_bits_Mul : LC := .seq (.ops [⟨some 4, none, .mv (.k (.i .u64 0))⟩,
      ⟨some 5, none, .mv (.k (.i .u64 0))⟩])
    (.seq (.cond (.k (.b false)) (.seq (.ops [⟨some 11, none, .mv (.t 0)⟩,
      ⟨some 12, none, .conv .u32 (.t 11)⟩,
      ⟨some 13, none, .mv (.t 1)⟩,
      ⟨some 14, none, .conv .u32 (.t 13)⟩,
      ⟨some 15, none, .call (.k (.fn n_math_bits_Mul32 [] [])) [.t 12, .t 14]⟩,
      ⟨some 10, none, .mv (.t 15)⟩,
      ⟨some 16, none, .ext 0 (.t 10)⟩,
      ⟨some 17, none, .ext 1 (.t 10)⟩,
      ⟨some 6, none, .mv (.t 16)⟩,
      ⟨some 7, none, .mv (.t 17)⟩])
    (.seq (.ops [⟨some 18, none, .mv (.t 6)⟩,
      ⟨some 19, none, .conv .u64 (.t 18)⟩,
      ⟨some 20, none, .mv (.t 7)⟩,
      ⟨some 21, none, .conv .u64 (.t 20)⟩,
      ⟨some 4, none, .mv (.t 19)⟩,
      ⟨some 5, none, .mv (.t 21)⟩])
    (.ret)))
    (.skip))
    (.seq (.ops [⟨some 23, none, .mv (.t 0)⟩,
      ⟨some 24, none, .mv (.t 1)⟩,
      ⟨some 25, none, .call (.k (.fn n_math_bits_Mul64 [] [])) [.t 23, .t 24]⟩,
      ⟨some 22, none, .mv (.t 25)⟩,
      ⟨some 26, none, .ext 0 (.t 22)⟩,
      ⟨some 27, none, .ext 1 (.t 22)⟩,
      ⟨some 8, none, .mv (.t 26)⟩,
      ⟨some 9, none, .mv (.t 27)⟩])
    (.seq (.ops [⟨some 28, none, .mv (.t 8)⟩,
      ⟨some 29, none, .mv (.t 9)⟩,
      ⟨some 4, none, .mv (.t 28)⟩,
      ⟨some 5, none, .mv (.t 29)⟩])
    (.ret))))
theorem k_math_bits_Mul : chkF Try.prog Try.f123 30 c_math_bits_Mul [.t 4, .t 5] = true := by kernel_rfl
theorem call_math_bits_Mul {args : List AV} {σ : List AB} {K : AV → List AB → Prop} (hn : args.length ≤ 30) (hw : wpC Try.prog σ.length 30 c_math_bits_Mul (retP σ.length [.t 4, .t 5] K) ⟨initT 0 args, σ⟩) : CallWp Try.prog n_math_bits_Mul args σ K := call_fn mixed Try.func123 k_math_bits_Mul hn hw
def l0_slices_insertionSortCmpFunc_int : LC := .seq (.seq (.draw 17 [⟨some 18, none, .mv (.t 9)⟩,
      ⟨some 19, none, .mv (.t 1)⟩,
      ⟨some 20, none, .bin .gtr (.t 18) (.t 19)⟩,
      ⟨some 21, none, .mv (.t 20)⟩,
      ⟨some 22, (some (21, true)), .mv (.t 3)⟩,
      ⟨some 23, (some (21, true)), .mv (.t 0)⟩,
      ⟨some 24, (some (21, true)), .mv (.t 9)⟩,
      ⟨some 25, (some (21, true)), .ia 1 (.t 23) (.t 24)⟩,
      ⟨some 26, (some (21, true)), .ld (.t 25)⟩,
      ⟨some 27, (some (21, true)), .mv (.t 0)⟩,
      ⟨some 28, (some (21, true)), .mv (.t 9)⟩,
      ⟨some 29, (some (21, true)), .bin .sub (.t 28) (.k (.i .i64 1))⟩,
      ⟨some 30, (some (21, true)), .ia 1 (.t 27) (.t 29)⟩,
      ⟨some 31, (some (21, true)), .ld (.t 30)⟩,
      ⟨some 32, (some (21, true)), .call (.t 22) [.t 26, .t 31]⟩,
      ⟨some 33, (some (21, true)), .bin .lss (.t 32) (.k (.i .i64 0))⟩,
      ⟨some 34, none, .pick (.t 21) (.t 33) (.k (.b false))⟩])
    (.cond (.t 34) (.skip)
    (.exit 2)))
    (.seq (.block 3 (.plan [0, 1, 2, 3, 4, 5, 6, 7, 8, 9, 10, 11, 12, 13, 14] [⟨some 37, none, .mv (.t 0)⟩,
      ⟨some 38, none, .mv (.t 9)⟩,
      ⟨some 39, none, .mv (.t 0)⟩,
      ⟨some 40, none, .mv (.t 9)⟩,
      ⟨some 41, none, .bin .sub (.t 40) (.k (.i .i64 1))⟩,
      ⟨some 42, none, .mv (.t 0)⟩,
      ⟨some 43, none, .mv (.t 9)⟩,
      ⟨some 44, none, .bin .sub (.t 43) (.k (.i .i64 1))⟩,
      ⟨some 45, none, .ia 1 (.t 42) (.t 44)⟩,
      ⟨some 46, none, .ld (.t 45)⟩,
      ⟨some 47, none, .mv (.t 0)⟩,
      ⟨some 48, none, .mv (.t 9)⟩,
      ⟨some 49, none, .ia 1 (.t 47) (.t 48)⟩,
      ⟨some 50, none, .ld (.t 49)⟩,
      ⟨some 51, none, .ia 1 (.t 37) (.t 38)⟩]
      (.one 15 ⟨none, none, .st 1 (.t 51) (.t 46)⟩ [] [16]
        [⟨some 52, none, .ia 1 (.t 39) (.t 41)⟩]
      (.one 17 ⟨none, none, .st 1 (.t 52) (.t 50)⟩ [] []
        []
      .fin))))
    (.ops [⟨some 35, none, .mv (.t 9)⟩,
      ⟨some 36, none, .bin .sub (.t 35) (.k (.i .i64 1))⟩,
      ⟨some 9, none, .mv (.t 36)⟩]))
def l1_slices_insertionSortCmpFunc_int : LC := .seq (.seq (.ops [⟨some 12, none, .mv (.t 8)⟩,
      ⟨some 13, none, .mv (.t 2)⟩,
      ⟨some 14, none, .bin .lss (.t 12) (.t 13)⟩])
    (.cond (.t 14) (.skip)
    (.exit 0)))
    (.seq (.block 1 (.seq (.ops [⟨some 17, none, .mv (.t 8)⟩,
      ⟨some 9, none, .mv (.t 17)⟩])
    (.block 2 (.loop l0_slices_insertionSortCmpFunc_int))))
    (.ops [⟨some 15, none, .mv (.t 8)⟩,
      ⟨some 16, none, .bin .add (.t 15) (.k (.i .i64 1))⟩,
      ⟨some 8, none, .mv (.t 16)⟩]))
def c_slices_insertionSortCmpFunc_int : LC := .seq (.ops [⟨some 10, none, .mv (.t 1)⟩,
      ⟨some 11, none, .bin .add (.t 10) (.k (.i .i64 1))⟩,
      ⟨some 8, none, .mv (.t 11)⟩])
    (.block 0 (.loop l1_slices_insertionSortCmpFunc_int))
theorem k_slices_insertionSortCmpFunc_int : chkF Try.prog Try.f124 53 c_slices_insertionSortCmpFunc_int [] = true := by kernel_rfl
theorem call_slices_insertionSortCmpFunc_int {args : List AV} {σ : List AB} {K : AV → List AB → Prop} (hn : args.length ≤ 53) (hw : wpC Try.prog σ.length 53 c_slices_insertionSortCmpFunc_int (retP σ.length [] K) ⟨initT 0 args, σ⟩) : CallWp Try.prog n_slices_insertionSortCmpFunc_int args σ K := call_fn mixed Try.func124 k_slices_insertionSortCmpFunc_int hn hw
def l0_slices_IndexFunc_impl_Task : LC := .seq (.ops [⟨some 9, none, .bin .lss (.t 8) (.t 7)⟩])
    (.seq (.cond (.t 9) (.skip)
    (.exit 0))
    (.seq (.block 1 (.seq (.ops [⟨some 10, none, .mv (.t 8)⟩,
      ⟨some 5, none, .mv (.t 10)⟩])
    (.seq (.ops [⟨some 11, none, .mv (.t 1)⟩,
      ⟨some 12, none, .mv (.t 0)⟩,
      ⟨some 13, none, .mv (.t 5)⟩,
      ⟨some 14, none, .ia 3 (.t 12) (.t 13)⟩,
      ⟨some 15, none, .ldn 3 (.t 14)⟩,
      ⟨some 16, none, .call (.t 11) [.t 15]⟩])
    (.cond (.t 16) (.seq (.ops [⟨some 17, none, .mv (.t 5)⟩,
      ⟨some 4, none, .mv (.t 17)⟩])
    (.ret))
    (.skip)))))
    (.ops [⟨some 18, none, .bin .add (.t 8) (.k (.i .i64 1))⟩,
      ⟨some 8, none, .mv (.t 18)⟩])))
def c_slices_IndexFunc_impl_Task : LC := .seq (.ops [⟨some 4, none, .mv (.k (.i .i64 0))⟩])
    (.seq (.seq (.ops [⟨some 6, none, .mv (.t 0)⟩,
      ⟨some 7, none, .len (.t 6)⟩,
      ⟨some 8, none, .mv (.k (.i .i64 0))⟩])
    (.block 0 (.loop l0_slices_IndexFunc_impl_Task)))
    (.seq (.ops [⟨some 4, none, .mv (.k (.i .i64 (-1)))⟩])
    (.ret)))
theorem k_slices_IndexFunc_impl_Task : chkF Try.prog Try.f126 19 c_slices_IndexFunc_impl_Task [.t 4] = true := by kernel_rfl
theorem call_slices_IndexFunc_impl_Task {args : List AV} {σ : List AB} {K : AV → List AB → Prop} (hn : args.length ≤ 19) (hw : wpC Try.prog σ.length 19 c_slices_IndexFunc_impl_Task (retP σ.length [.t 4] K) ⟨initT 0 args, σ⟩) : CallWp Try.prog n_slices_IndexFunc_impl_Task args σ K := call_fn mixed Try.func126 k_slices_IndexFunc_impl_Task hn hw
def c_math_bits_Mul64 : LC := .seq (.ops [⟨some 4, none, .mv (.k (.i .u64 0))⟩,
      ⟨some 5, none, .mv (.k (.i .u64 0))⟩])
    (.seq (.ops [⟨some 14, none, .mv (.t 0)⟩,
      ⟨some 15, none, .bin .and (.t 14) (.k (.i .u64 4294967295))⟩,
      ⟨some 6, none, .mv (.t 15)⟩])
    (.seq (.ops [⟨some 16, none, .mv (.t 0)⟩,
      ⟨some 17, none, .shr (.t 16) (.k (.i .u64 32))⟩,
      ⟨some 7, none, .mv (.t 17)⟩])
    (.seq (.ops [⟨some 18, none, .mv (.t 1)⟩,
      ⟨some 19, none, .bin .and (.t 18) (.k (.i .u64 4294967295))⟩,
      ⟨some 8, none, .mv (.t 19)⟩])
    (.seq (.ops [⟨some 20, none, .mv (.t 1)⟩,
      ⟨some 21, none, .shr (.t 20) (.k (.i .u64 32))⟩,
      ⟨some 9, none, .mv (.t 21)⟩])
    (.seq (.ops [⟨some 22, none, .mv (.t 6)⟩,
      ⟨some 23, none, .mv (.t 8)⟩,
      ⟨some 24, none, .bin .mul (.t 22) (.t 23)⟩,
      ⟨some 10, none, .mv (.t 24)⟩])
    (.seq (.ops [⟨some 25, none, .mv (.t 7)⟩,
      ⟨some 26, none, .mv (.t 8)⟩,
      ⟨some 27, none, .bin .mul (.t 25) (.t 26)⟩,
      ⟨some 28, none, .mv (.t 10)⟩,
      ⟨some 29, none, .shr (.t 28) (.k (.i .u64 32))⟩,
      ⟨some 30, none, .bin .add (.t 27) (.t 29)⟩,
      ⟨some 11, none, .mv (.t 30)⟩])
    (.seq (.ops [⟨some 31, none, .mv (.t 11)⟩,
      ⟨some 32, none, .bin .and (.t 31) (.k (.i .u64 4294967295))⟩,
      ⟨some 12, none, .mv (.t 32)⟩])
    (.seq (.ops [⟨some 33, none, .mv (.t 11)⟩,
      ⟨some 34, none, .shr (.t 33) (.k (.i .u64 32))⟩,
      ⟨some 13, none, .mv (.t 34)⟩])
    (.seq (.ops [⟨some 35, none, .mv (.t 12)⟩,
      ⟨some 36, none, .mv (.t 6)⟩,
      ⟨some 37, none, .mv (.t 9)⟩,
      ⟨some 38, none, .bin .mul (.t 36) (.t 37)⟩,
      ⟨some 39, none, .bin .add (.t 35) (.t 38)⟩,
      ⟨some 12, none, .mv (.t 39)⟩])
    (.seq (.ops [⟨some 40, none, .mv (.t 7)⟩,
      ⟨some 41, none, .mv (.t 9)⟩,
      ⟨some 42, none, .bin .mul (.t 40) (.t 41)⟩,
      ⟨some 43, none, .mv (.t 13)⟩,
      ⟨some 44, none, .bin .add (.t 42) (.t 43)⟩,
      ⟨some 45, none, .mv (.t 12)⟩,
      ⟨some 46, none, .shr (.t 45) (.k (.i .u64 32))⟩,
      ⟨some 47, none, .bin .add (.t 44) (.t 46)⟩,
      ⟨some 4, none, .mv (.t 47)⟩])
    (.seq (.ops [⟨some 48, none, .mv (.t 0)⟩,
      ⟨some 49, none, .mv (.t 1)⟩,
      ⟨some 50, none, .bin .mul (.t 48) (.t 49)⟩,
      ⟨some 5, none, .mv (.t 50)⟩])
    (.ret))))))))))))
theorem k_math_bits_Mul64 : chkF Try.prog Try.f129 51 c_math_bits_Mul64 [.t 4, .t 5] = true := by kernel_rfl
theorem call_math_bits_Mul64 {args : List AV} {σ : List AB} {K : AV → List AB → Prop} (hn : args.length ≤ 51) (hw : wpC Try.prog σ.length 51 c_math_bits_Mul64 (retP σ.length [.t 4, .t 5] K) ⟨initT 0 args, σ⟩) : CallWp Try.prog n_math_bits_Mul64 args σ K := call_fn mixed Try.func129 k_math_bits_Mul64 hn hw
def l0_slices_rotateCmpFunc_int : LC := .seq (.seq (.ops [⟨some 18, none, .mv (.t 10)⟩,
      ⟨some 19, none, .mv (.t 11)⟩,
      ⟨some 20, none, .bin .neq (.t 18) (.t 19)⟩])
    (.cond (.t 20) (.skip)
    (.exit 0)))
    (.block 1 (.seq (.ops [⟨some 21, none, .mv (.t 10)⟩,
      ⟨some 22, none, .mv (.t 11)⟩,
      ⟨some 23, none, .bin .gtr (.t 21) (.t 22)⟩])
    (.cond (.t 23) (.seq (.ops [⟨some 24, none, .mv (.t 0)⟩,
      ⟨some 25, none, .mv (.t 2)⟩,
      ⟨some 26, none, .mv (.t 10)⟩,
      ⟨some 27, none, .bin .sub (.t 25) (.t 26)⟩,
      ⟨some 28, none, .mv (.t 2)⟩,
      ⟨some 29, none, .mv (.t 11)⟩,
      ⟨some 30, none, .mv (.t 4)⟩,
      ⟨some 31, none, .call (.k (.fn n_slices_swapRangeCmpFunc_int [] [])) [.t 24, .t 27, .t 28, .t 29, .t 30]⟩])
    (.ops [⟨some 32, none, .mv (.t 10)⟩,
      ⟨some 33, none, .mv (.t 11)⟩,
      ⟨some 34, none, .bin .sub (.t 32) (.t 33)⟩,
      ⟨some 10, none, .mv (.t 34)⟩]))
    (.seq (.ops [⟨some 35, none, .mv (.t 0)⟩,
      ⟨some 36, none, .mv (.t 2)⟩,
      ⟨some 37, none, .mv (.t 10)⟩,
      ⟨some 38, none, .bin .sub (.t 36) (.t 37)⟩,
      ⟨some 39, none, .mv (.t 2)⟩,
      ⟨some 40, none, .mv (.t 11)⟩,
      ⟨some 41, none, .bin .add (.t 39) (.t 40)⟩,
      ⟨some 42, none, .mv (.t 10)⟩,
      ⟨some 43, none, .bin .sub (.t 41) (.t 42)⟩,
      ⟨some 44, none, .mv (.t 10)⟩,
      ⟨some 45, none, .mv (.t 4)⟩,
      ⟨some 46, none, .call (.k (.fn n_slices_swapRangeCmpFunc_int [] [])) [.t 35, .t 38, .t 43, .t 44, .t 45]⟩])
    (.ops [⟨some 47, none, .mv (.t 11)⟩,
      ⟨some 48, none, .mv (.t 10)⟩,
      ⟨some 49, none, .bin .sub (.t 47) (.t 48)⟩,
      ⟨some 11, none, .mv (.t 49)⟩])))))
def c_slices_rotateCmpFunc_int : LC := .seq (.ops [⟨some 12, none, .mv (.t 2)⟩,
      ⟨some 13, none, .mv (.t 1)⟩,
      ⟨some 14, none, .bin .sub (.t 12) (.t 13)⟩,
      ⟨some 10, none, .mv (.t 14)⟩])
    (.seq (.ops [⟨some 15, none, .mv (.t 3)⟩,
      ⟨some 16, none, .mv (.t 2)⟩,
      ⟨some 17, none, .bin .sub (.t 15) (.t 16)⟩,
      ⟨some 11, none, .mv (.t 17)⟩])
    (.seq (.block 0 (.loop l0_slices_rotateCmpFunc_int))
    (.ops [⟨some 50, none, .mv (.t 0)⟩,
      ⟨some 51, none, .mv (.t 2)⟩,
      ⟨some 52, none, .mv (.t 10)⟩,
      ⟨some 53, none, .bin .sub (.t 51) (.t 52)⟩,
      ⟨some 54, none, .mv (.t 2)⟩,
      ⟨some 55, none, .mv (.t 10)⟩,
      ⟨some 56, none, .mv (.t 4)⟩,
      ⟨some 57, none, .call (.k (.fn n_slices_swapRangeCmpFunc_int [] [])) [.t 50, .t 53, .t 54, .t 55, .t 56]⟩])))
theorem k_slices_rotateCmpFunc_int : chkF Try.prog Try.f130 58 c_slices_rotateCmpFunc_int [] = true := by kernel_rfl
theorem call_slices_rotateCmpFunc_int {args : List AV} {σ : List AB} {K : AV → List AB → Prop} (hn : args.length ≤ 58) (hw : wpC Try.prog σ.length 58 c_slices_rotateCmpFunc_int (retP σ.length [] K) ⟨initT 0 args, σ⟩) : CallWp Try.prog n_slices_rotateCmpFunc_int args σ K := call_fn mixed Try.func130 k_slices_rotateCmpFunc_int hn hw
end Go.Proofs.Ytmphblbpofnpaaa
