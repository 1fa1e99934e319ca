import Derived.Test.YtgnlibnnpipbhaaProg
import Derived.Test.YtgnlibnnpipbhaaAbsY
import Derived.KernelRfl
namespace Go.Proofs.Ytgnlibnnpipbhaa
open Go.Abs
set_option maxRecDepth 100000
theorem mixed : Try.prog.follows .mixedOrders = true := by kernel_rfl
abbrev n_laws_FnMonotonic : Nat := 9
abbrev n_laws_alive : Nat := 18
abbrev n_laws_sameInts : Nat := 21
abbrev n_impl_FixedFeasible : Nat := 24
abbrev n_impl_ResponseTimes : Nat := 25
abbrev n_impl_DeadlineMonotonic : Nat := 30
abbrev n_spec_DrawDeadlineMonotonic : Nat := 34
abbrev n_spec_DeadlineMonotonic : Nat := 35
abbrev n_spec_SetValid : Nat := 36
abbrev n_impl_AssignPriorities : Nat := 37
abbrev n_impl_OrderValid : Nat := 38
abbrev n_spec_l20Open : Nat := 45
abbrev n_spec_l20Set : Nat := 46
abbrev n_impl_TaskValid : Nat := 53
abbrev n_spec_l1In : Nat := 54
abbrev n_slices_Contains_int : Nat := 57
abbrev n_impl_responses : Nat := 58
abbrev n_impl_SetValid : Nat := 59
abbrev n_impl_in : Nat := 64
abbrev n_impl_indices : Nat := 66
abbrev n_slices_SortStableFunc_int : Nat := 67
abbrev n_impl_DeadlineMonotonic_1 : Nat := 68
abbrev n_spec_TaskValid : Nat := 77
abbrev n_slices_IndexFunc_int : Nat := 78
abbrev n_impl_AssignPriorities_1 : Nat := 79
abbrev n_slices_DeleteFunc_int : Nat := 80
abbrev n_slices_Clone_int : Nat := 81
abbrev n_impl_AssignPriorities_1_1 : Nat := 82
abbrev n_impl_response : Nat := 83
abbrev n_slices_Delete_int : Nat := 84
abbrev n_slices_Index_int : Nat := 85
abbrev n_spec_l20Rd_pick : Nat := 86
abbrev n_spec_l20Task : Nat := 91
abbrev n_spec_l20Rd_odd : Nat := 92
abbrev n_slices_ContainsFunc_impl_Task : Nat := 101
abbrev n_impl_SetValid_1 : Nat := 102
abbrev n_slices_stableCmpFunc_int : Nat := 106
abbrev n_impl_ceil : Nat := 108
abbrev n_slices_IndexFunc_impl_Task : Nat := 111
abbrev n_slices_insertionSortCmpFunc_int : Nat := 113
abbrev n_slices_symMergeCmpFunc_int : Nat := 114
abbrev n_slices_rotateCmpFunc_int : Nat := 116
abbrev n_slices_swapRangeCmpFunc_int : Nat := 119
abbrev ty_int : Nat := 3
abbrev ty_sl_impl_Task : Nat := 23
abbrev ty_sl_int : Nat := 24
abbrev ty_impl_Task : Nat := 50
abbrev ty_spec_l20Rd : Nat := 100
def l0_laws_FnMonotonic : LC := .seq (.seq (.ops [⟨some 29, none, .mv (.t 5)⟩,
      ⟨some 30, none, .mv (.t 4)⟩,
      ⟨some 31, none, .len (.t 30)⟩,
      ⟨some 32, none, .bin .lss (.t 29) (.t 31)⟩])
    (.cond (.t 32) (.skip)
    (.exit 0)))
    (.seq (.block 1 (.seq (.draw 18 [⟨some 35, none, .mv (.t 3)⟩,
      ⟨some 36, none, .mv (.t 4)⟩,
      ⟨some 37, none, .mv (.t 5)⟩,
      ⟨some 38, none, .bin .sub (.t 37) (.k (.i .i64 1))⟩,
      ⟨some 39, none, .ia 1 (.t 36) (.t 38)⟩,
      ⟨some 40, none, .ld (.t 39)⟩,
      ⟨some 41, none, .ia 3 (.t 35) (.t 40)⟩,
      ⟨some 42, none, .fa 1 (.t 41)⟩,
      ⟨some 43, none, .ld (.t 42)⟩,
      ⟨some 44, none, .mv (.t 3)⟩,
      ⟨some 45, none, .mv (.t 4)⟩,
      ⟨some 46, none, .mv (.t 5)⟩,
      ⟨some 47, none, .ia 1 (.t 45) (.t 46)⟩,
      ⟨some 48, none, .ld (.t 47)⟩,
      ⟨some 49, none, .ia 3 (.t 44) (.t 48)⟩,
      ⟨some 50, none, .fa 1 (.t 49)⟩,
      ⟨some 51, none, .ld (.t 50)⟩,
      ⟨some 52, none, .bin .gtr (.t 43) (.t 51)⟩])
    (.cond (.t 52) (.seq (.ops [⟨some 2, none, .mv (.k (.b false))⟩])
    (.ret))
    (.skip))))
    (.ops [⟨some 33, none, .mv (.t 5)⟩,
      ⟨some 34, none, .bin .add (.t 33) (.k (.i .i64 1))⟩,
      ⟨some 5, none, .mv (.t 34)⟩]))
def c_laws_FnMonotonic : LC := .seq (.ops [⟨some 2, none, .mv (.k (.b false))⟩])
    (.seq (.seq (.ops [⟨some 8, none, .mv (.t 0)⟩,
      ⟨some 9, none, .len (.t 8)⟩,
      ⟨some 10, none, .bin .gtr (.t 9) (.k (.i .i64 1048576))⟩])
    (.cond (.t 10) (.seq (.ops [⟨some 2, none, .mv (.k (.b true))⟩])
    (.ret))
    (.skip)))
    (.seq (.ops [⟨some 11, none, .mv (.t 0)⟩,
      ⟨some 12, none, .call (.k (.fn n_spec_DrawDeadlineMonotonic [] [])) [.t 11]⟩,
      ⟨some 3, none, .mv (.t 12)⟩])
    (.seq (.ops [⟨some 13, none, .mv (.t 3)⟩,
      ⟨some 14, none, .call (.k (.fn n_impl_DeadlineMonotonic [] [])) [.t 13]⟩,
      ⟨some 4, none, .mv (.t 14)⟩])
    (.seq (.seq (.ops [⟨some 15, none, .mv (.t 4)⟩,
      ⟨some 16, none, .mv (.t 3)⟩,
      ⟨some 17, none, .call (.k (.fn n_spec_DeadlineMonotonic [] [])) [.t 16]⟩,
      ⟨some 18, none, .call (.k (.fn n_laws_sameInts [] [])) [.t 15, .t 17]⟩,
      ⟨some 19, none, .not (.t 18)⟩])
    (.cond (.t 19) (.seq (.ops [⟨some 2, none, .mv (.k (.b false))⟩])
    (.ret))
    (.skip)))
    (.seq (.seq (.ops [⟨some 20, none, .mv (.t 3)⟩,
      ⟨some 21, none, .call (.k (.fn n_spec_SetValid [] [])) [.t 20]⟩,
      ⟨some 22, none, .not (.t 21)⟩])
    (.cond (.t 22) (.seq (.ops [⟨some 23, none, .mv (.t 4)⟩,
      ⟨some 24, none, .len (.t 23)⟩,
      ⟨some 25, none, .bin .eql (.t 24) (.k (.i .i64 0))⟩,
      ⟨some 26, none, .mv (.t 25)⟩,
      ⟨some 27, (some (26, true)), .call (.k (.fn n_laws_alive [] [])) []⟩,
      ⟨some 28, none, .pick (.t 26) (.t 27) (.k (.b false))⟩,
      ⟨some 2, none, .mv (.t 28)⟩])
    (.ret))
    (.skip)))
    (.seq (.seq (.ops [⟨some 5, none, .mv (.k (.i .i64 1))⟩])
    (.block 0 (.loop l0_laws_FnMonotonic)))
    (.seq (.ops [⟨some 54, none, .mv (.t 3)⟩,
      ⟨some 55, none, .call (.k (.fn n_impl_AssignPriorities [] [])) [.t 54]⟩,
      ⟨some 53, none, .mv (.t 55)⟩,
      ⟨some 56, none, .ext 0 (.t 53)⟩,
      ⟨some 57, none, .ext 1 (.t 53)⟩,
      ⟨some 6, none, .mv (.t 56)⟩,
      ⟨some 7, none, .mv (.t 57)⟩])
    (.seq (.ops [⟨some 58, none, .mv (.t 3)⟩,
      ⟨some 59, none, .mv (.t 4)⟩,
      ⟨some 60, none, .call (.k (.fn n_impl_OrderValid [] [])) [.t 58, .t 59]⟩,
      ⟨some 61, none, .mv (.t 60)⟩,
      ⟨some 62, (some (61, true)), .mv (.t 3)⟩,
      ⟨some 63, (some (61, true)), .mv (.t 4)⟩,
      ⟨some 64, (some (61, true)), .call (.k (.fn n_impl_FixedFeasible [] [])) [.t 62, .t 63]⟩,
      ⟨some 65, (some (61, true)), .mv (.t 7)⟩,
      ⟨some 66, (some (61, true)), .beq false (.t 64) (.t 65)⟩,
      ⟨some 67, none, .pick (.t 61) (.t 66) (.k (.b false))⟩,
      ⟨some 2, none, .mv (.t 67)⟩])
    (.ret)))))))))
theorem k_laws_FnMonotonic : chkF Try.prog Try.f9 68 c_laws_FnMonotonic [.t 2] = true := by kernel_rfl
theorem call_laws_FnMonotonic {args : List AV} {σ : List AB} {K : AV → List AB → Prop} (hn : args.length ≤ 68) (hw : wpC Try.prog σ.length 68 c_laws_FnMonotonic (retP σ.length [.t 2] K) ⟨initT 0 args, σ⟩) : CallWp Try.prog n_laws_FnMonotonic args σ K := call_fn mixed Try.func9 k_laws_FnMonotonic hn hw
def c_laws_alive : LC := .seq (.ops [⟨some 0, none, .mv (.k (.b false))⟩])
    (.seq (.ops [⟨some 1, none, .build [.i .i64 0, .i .i64 0, .i .i64 0] [(0, 1, .k (.i .i64 1)), (1, 1, .k (.i .i64 1)), (2, 1, .k (.i .i64 1))]⟩,
      ⟨some 2, none, .call (.k (.fn n_impl_TaskValid [] [])) [.t 1]⟩,
      ⟨some 0, none, .mv (.t 2)⟩])
    (.ret))
theorem k_laws_alive : chkF Try.prog Try.f18 3 c_laws_alive [.t 0] = true := by kernel_rfl
theorem call_laws_alive {args : List AV} {σ : List AB} {K : AV → List AB → Prop} (hn : args.length ≤ 3) (hw : wpC Try.prog σ.length 3 c_laws_alive (retP σ.length [.t 0] K) ⟨initT 0 args, σ⟩) : CallWp Try.prog n_laws_alive args σ K := call_fn mixed Try.func18 k_laws_alive hn hw
def l0_laws_sameInts : LC := .seq (.seq (.ops [⟨some 11, none, .mv (.t 5)⟩,
      ⟨some 12, none, .mv (.t 0)⟩,
      ⟨some 13, none, .len (.t 12)⟩,
      ⟨some 14, none, .bin .lss (.t 11) (.t 13)⟩])
    (.cond (.t 14) (.skip)
    (.exit 0)))
    (.seq (.block 1 (.seq (.draw 9 [⟨some 17, none, .mv (.t 0)⟩,
      ⟨some 18, none, .mv (.t 5)⟩,
      ⟨some 19, none, .ia 1 (.t 17) (.t 18)⟩,
      ⟨some 20, none, .ld (.t 19)⟩,
      ⟨some 21, none, .mv (.t 1)⟩,
      ⟨some 22, none, .mv (.t 5)⟩,
      ⟨some 23, none, .ia 1 (.t 21) (.t 22)⟩,
      ⟨some 24, none, .ld (.t 23)⟩,
      ⟨some 25, none, .bin .neq (.t 20) (.t 24)⟩])
    (.cond (.t 25) (.seq (.ops [⟨some 4, none, .mv (.k (.b false))⟩])
    (.ret))
    (.skip))))
    (.ops [⟨some 15, none, .mv (.t 5)⟩,
      ⟨some 16, none, .bin .add (.t 15) (.k (.i .i64 1))⟩,
      ⟨some 5, none, .mv (.t 16)⟩]))
def c_laws_sameInts : LC := .seq (.ops [⟨some 4, none, .mv (.k (.b false))⟩])
    (.seq (.seq (.ops [⟨some 6, none, .mv (.t 0)⟩,
      ⟨some 7, none, .len (.t 6)⟩,
      ⟨some 8, none, .mv (.t 1)⟩,
      ⟨some 9, none, .len (.t 8)⟩,
      ⟨some 10, none, .bin .neq (.t 7) (.t 9)⟩])
    (.cond (.t 10) (.seq (.ops [⟨some 4, none, .mv (.k (.b false))⟩])
    (.ret))
    (.skip)))
    (.seq (.seq (.ops [⟨some 5, none, .mv (.k (.i .i64 0))⟩])
    (.block 0 (.loop l0_laws_sameInts)))
    (.seq (.ops [⟨some 4, none, .mv (.k (.b true))⟩])
    (.ret))))
theorem k_laws_sameInts : chkF Try.prog Try.f21 26 c_laws_sameInts [.t 4] = true := by kernel_rfl
theorem call_laws_sameInts {args : List AV} {σ : List AB} {K : AV → List AB → Prop} (hn : args.length ≤ 26) (hw : wpC Try.prog σ.length 26 c_laws_sameInts (retP σ.length [.t 4] K) ⟨initT 0 args, σ⟩) : CallWp Try.prog n_laws_sameInts args σ K := call_fn mixed Try.func21 k_laws_sameInts hn hw
def c_impl_FixedFeasible : LC := .seq (.ops [⟨some 4, none, .mv (.k (.b false))⟩])
    (.seq (.ops [⟨some 5, none, .mv (.t 0)⟩,
      ⟨some 6, none, .mv (.t 1)⟩,
      ⟨some 7, none, .call (.k (.fn n_impl_OrderValid [] [])) [.t 5, .t 6]⟩,
      ⟨some 8, none, .mv (.t 7)⟩,
      ⟨some 9, (some (8, true)), .mv (.t 0)⟩,
      ⟨some 10, (some (8, true)), .mv (.t 1)⟩,
      ⟨some 11, (some (8, true)), .call (.k (.fn n_impl_ResponseTimes [] [])) [.t 9, .t 10]⟩,
      ⟨some 12, (some (8, true)), .call (.k (.fn n_slices_Contains_int [] [])) [.t 11, .k (.i .i64 (-1))]⟩,
      ⟨some 13, (some (8, true)), .not (.t 12)⟩,
      ⟨some 14, none, .pick (.t 8) (.t 13) (.k (.b false))⟩,
      ⟨some 4, none, .mv (.t 14)⟩])
    (.ret))
theorem k_impl_FixedFeasible : chkF Try.prog Try.f24 15 c_impl_FixedFeasible [.t 4] = true := by kernel_rfl
theorem call_impl_FixedFeasible {args : List AV} {σ : List AB} {K : AV → List AB → Prop} (hn : args.length ≤ 15) (hw : wpC Try.prog σ.length 15 c_impl_FixedFeasible (retP σ.length [.t 4] K) ⟨initT 0 args, σ⟩) : CallWp Try.prog n_impl_FixedFeasible args σ K := call_fn mixed Try.func24 k_impl_FixedFeasible hn hw
def c_impl_ResponseTimes : LC := .seq (.ops [⟨some 4, none, .mv (.k (.sn))⟩])
    (.seq (.seq (.ops [⟨some 5, none, .mv (.t 0)⟩,
      ⟨some 6, none, .mv (.t 1)⟩,
      ⟨some 7, none, .call (.k (.fn n_impl_OrderValid [] [])) [.t 5, .t 6]⟩,
      ⟨some 8, none, .not (.t 7)⟩])
    (.cond (.t 8) (.seq (.ops [⟨some 4, none, .mv (.k (.sn))⟩])
    (.ret))
    (.skip)))
    (.seq (.ops [⟨some 9, none, .mv (.t 0)⟩,
      ⟨some 10, none, .mv (.t 0)⟩,
      ⟨some 11, none, .len (.t 10)⟩,
      ⟨some 12, none, .msl ty_int 8 [.i .i64 0] (.t 11)⟩,
      ⟨some 13, none, .mv (.t 1)⟩,
      ⟨some 14, none, .call (.k (.fn n_impl_responses [] [])) [.t 9, .t 12, .t 13]⟩,
      ⟨some 4, none, .mv (.t 14)⟩])
    (.ret)))
theorem k_impl_ResponseTimes : chkF Try.prog Try.f25 15 c_impl_ResponseTimes [.t 4] = true := by kernel_rfl
theorem call_impl_ResponseTimes {args : List AV} {σ : List AB} {K : AV → List AB → Prop} (hn : args.length ≤ 15) (hw : wpC Try.prog σ.length 15 c_impl_ResponseTimes (retP σ.length [.t 4] K) ⟨initT 0 args, σ⟩) : CallWp Try.prog n_impl_ResponseTimes args σ K := call_fn mixed Try.func25 k_impl_ResponseTimes hn hw
def c_impl_DeadlineMonotonic : LC := .seq (.ops [⟨some 1, none, .box ty_sl_impl_Task (.t 0)⟩,
      ⟨some 2, none, .mv (.k (.sn))⟩])
    (.seq (.seq (.ops [⟨some 4, none, .ld (.t 1)⟩,
      ⟨some 5, none, .call (.k (.fn n_impl_SetValid [] [])) [.t 4]⟩,
      ⟨some 6, none, .not (.t 5)⟩])
    (.cond (.t 6) (.seq (.ops [⟨some 2, none, .mv (.k (.sn))⟩])
    (.ret))
    (.skip)))
    (.seq (.ops [⟨some 7, none, .ld (.t 1)⟩,
      ⟨some 8, none, .len (.t 7)⟩,
      ⟨some 9, none, .call (.k (.fn n_impl_indices [] [])) [.t 8]⟩,
      ⟨some 3, none, .mv (.t 9)⟩])
    (.seq (.ops [⟨some 10, none, .mv (.t 3)⟩,
      ⟨some 11, none, .mkf n_impl_DeadlineMonotonic_1 [] [.t 1]⟩,
      ⟨some 12, none, .call (.k (.fn n_slices_SortStableFunc_int [] [])) [.t 10, .t 11]⟩])
    (.seq (.ops [⟨some 13, none, .mv (.t 3)⟩,
      ⟨some 2, none, .mv (.t 13)⟩])
    (.ret)))))
theorem k_impl_DeadlineMonotonic : chkF Try.prog Try.f30 14 c_impl_DeadlineMonotonic [.t 2] = true := by kernel_rfl
theorem call_impl_DeadlineMonotonic {args : List AV} {σ : List AB} {K : AV → List AB → Prop} (hn : args.length ≤ 14) (hw : wpC Try.prog σ.length 14 c_impl_DeadlineMonotonic (retP σ.length [.t 2] K) ⟨initT 0 args, σ⟩) : CallWp Try.prog n_impl_DeadlineMonotonic args σ K := call_fn mixed Try.func30 k_impl_DeadlineMonotonic hn hw
def c_spec_DrawDeadlineMonotonic : LC := .seq (.ops [⟨some 2, none, .mv (.k (.sn))⟩])
    (.seq (.ops [⟨some 3, none, .mv (.t 0)⟩,
      ⟨some 4, none, .call (.k (.fn n_spec_l20Open [] [])) [.t 3]⟩,
      ⟨some 5, none, .call (.k (.fn n_spec_l20Set [] [])) [.t 4, .k (.i .i64 12)]⟩,
      ⟨some 2, none, .mv (.t 5)⟩])
    (.ret))
theorem k_spec_DrawDeadlineMonotonic : chkF Try.prog Try.f34 6 c_spec_DrawDeadlineMonotonic [.t 2] = true := by kernel_rfl
theorem call_spec_DrawDeadlineMonotonic {args : List AV} {σ : List AB} {K : AV → List AB → Prop} (hn : args.length ≤ 6) (hw : wpC Try.prog σ.length 6 c_spec_DrawDeadlineMonotonic (retP σ.length [.t 2] K) ⟨initT 0 args, σ⟩) : CallWp Try.prog n_spec_DrawDeadlineMonotonic args σ K := call_fn mixed Try.func34 k_spec_DrawDeadlineMonotonic hn hw
def l0_spec_DeadlineMonotonic : LC := .seq (.seq (.ops [⟨some 15, none, .mv (.t 5)⟩,
      ⟨some 16, none, .mv (.t 0)⟩,
      ⟨some 17, none, .len (.t 16)⟩,
      ⟨some 18, none, .bin .lss (.t 15) (.t 17)⟩])
    (.cond (.t 18) (.skip)
    (.exit 2)))
    (.seq (.block 3 (.seq (.ops [⟨some 21, none, .mv (.t 0)⟩,
      ⟨some 22, none, .mv (.t 5)⟩,
      ⟨some 23, none, .ia 3 (.t 21) (.t 22)⟩,
      ⟨some 24, none, .fa 1 (.t 23)⟩,
      ⟨some 25, none, .ld (.t 24)⟩,
      ⟨some 26, none, .mv (.t 4)⟩,
      ⟨some 27, none, .bin .eql (.t 25) (.t 26)⟩])
    (.cond (.t 27) (.ops [⟨some 28, none, .mv (.t 3)⟩,
      ⟨some 29, none, .mv (.t 5)⟩,
      ⟨some 30, none, .bsl ty_int [.i .i64 0] 1 [(0, 1, .t 29)]⟩,
      ⟨some 31, none, .app ty_int 1 8 (.t 28) (.t 30)⟩,
      ⟨some 3, none, .mv (.t 31)⟩])
    (.skip))))
    (.ops [⟨some 19, none, .mv (.t 5)⟩,
      ⟨some 20, none, .bin .add (.t 19) (.k (.i .i64 1))⟩,
      ⟨some 5, none, .mv (.t 20)⟩]))
def l1_spec_DeadlineMonotonic : LC := .seq (.seq (.ops [⟨some 11, none, .mv (.t 4)⟩,
      ⟨some 12, none, .bin .leq (.t 11) (.k (.i .i64 12))⟩])
    (.cond (.t 12) (.skip)
    (.exit 0)))
    (.seq (.block 1 (.seq (.ops [⟨some 5, none, .mv (.k (.i .i64 0))⟩])
    (.block 2 (.loop l0_spec_DeadlineMonotonic))))
    (.ops [⟨some 13, none, .mv (.t 4)⟩,
      ⟨some 14, none, .bin .add (.t 13) (.k (.i .i64 1))⟩,
      ⟨some 4, none, .mv (.t 14)⟩]))
def c_spec_DeadlineMonotonic : LC := .seq (.ops [⟨some 2, none, .mv (.k (.sn))⟩])
    (.seq (.ops [⟨some 6, none, .bsl ty_int [.i .i64 0] 0 []⟩,
      ⟨some 3, none, .mv (.t 6)⟩])
    (.seq (.seq (.ops [⟨some 7, none, .mv (.t 0)⟩,
      ⟨some 8, none, .call (.k (.fn n_spec_SetValid [] [])) [.t 7]⟩,
      ⟨some 9, none, .not (.t 8)⟩])
    (.cond (.t 9) (.seq (.ops [⟨some 10, none, .mv (.t 3)⟩,
      ⟨some 2, none, .mv (.t 10)⟩])
    (.ret))
    (.skip)))
    (.seq (.seq (.ops [⟨some 4, none, .mv (.k (.i .i64 1))⟩])
    (.block 0 (.loop l1_spec_DeadlineMonotonic)))
    (.seq (.ops [⟨some 32, none, .mv (.t 3)⟩,
      ⟨some 2, none, .mv (.t 32)⟩])
    (.ret)))))
theorem k_spec_DeadlineMonotonic : chkF Try.prog Try.f35 33 c_spec_DeadlineMonotonic [.t 2] = true := by kernel_rfl
theorem call_spec_DeadlineMonotonic {args : List AV} {σ : List AB} {K : AV → List AB → Prop} (hn : args.length ≤ 33) (hw : wpC Try.prog σ.length 33 c_spec_DeadlineMonotonic (retP σ.length [.t 2] K) ⟨initT 0 args, σ⟩) : CallWp Try.prog n_spec_DeadlineMonotonic args σ K := call_fn mixed Try.func35 k_spec_DeadlineMonotonic hn hw
def l0_spec_SetValid : LC := .seq (.seq (.ops [⟨some 4, none, .mv (.t 3)⟩,
      ⟨some 5, none, .mv (.t 0)⟩,
      ⟨some 6, none, .len (.t 5)⟩,
      ⟨some 7, none, .bin .lss (.t 4) (.t 6)⟩])
    (.cond (.t 7) (.skip)
    (.exit 0)))
    (.seq (.block 1 (.seq (.ops [⟨some 10, none, .mv (.t 0)⟩,
      ⟨some 11, none, .mv (.t 3)⟩,
      ⟨some 12, none, .ia 3 (.t 10) (.t 11)⟩,
      ⟨some 13, none, .ldn 3 (.t 12)⟩,
      ⟨some 14, none, .call (.k (.fn n_spec_TaskValid [] [])) [.t 13]⟩,
      ⟨some 15, none, .not (.t 14)⟩])
    (.cond (.t 15) (.seq (.ops [⟨some 2, none, .mv (.k (.b false))⟩])
    (.ret))
    (.skip))))
    (.ops [⟨some 8, none, .mv (.t 3)⟩,
      ⟨some 9, none, .bin .add (.t 8) (.k (.i .i64 1))⟩,
      ⟨some 3, none, .mv (.t 9)⟩]))
def c_spec_SetValid : LC := .seq (.ops [⟨some 2, none, .mv (.k (.b false))⟩])
    (.seq (.seq (.ops [⟨some 3, none, .mv (.k (.i .i64 0))⟩])
    (.block 0 (.loop l0_spec_SetValid)))
    (.seq (.ops [⟨some 16, none, .mv (.t 0)⟩,
      ⟨some 17, none, .len (.t 16)⟩,
      ⟨some 18, none, .bin .leq (.t 17) (.k (.i .i64 5))⟩,
      ⟨some 2, none, .mv (.t 18)⟩])
    (.ret)))
theorem k_spec_SetValid : chkF Try.prog Try.f36 19 c_spec_SetValid [.t 2] = true := by kernel_rfl
theorem call_spec_SetValid {args : List AV} {σ : List AB} {K : AV → List AB → Prop} (hn : args.length ≤ 19) (hw : wpC Try.prog σ.length 19 c_spec_SetValid (retP σ.length [.t 2] K) ⟨initT 0 args, σ⟩) : CallWp Try.prog n_spec_SetValid args σ K := call_fn mixed Try.func36 k_spec_SetValid hn hw
def l0_impl_AssignPriorities : LC := .seq (.seq (.ops [⟨some 20, none, .mv (.t 6)⟩,
      ⟨some 21, none, .bin .geq (.t 20) (.k (.i .i64 0))⟩])
    (.cond (.t 21) (.skip)
    (.exit 0)))
    (.seq (.block 1 (.seq (.ops [⟨some 24, none, .ld (.t 4)⟩,
      ⟨some 25, none, .mkf n_impl_AssignPriorities_1 [] [.t 4, .t 1]⟩,
      ⟨some 26, none, .call (.k (.fn n_slices_IndexFunc_int [] [])) [.t 24, .t 25]⟩,
      ⟨some 7, none, .mv (.t 26)⟩])
    (.seq (.seq (.ops [⟨some 27, none, .mv (.t 7)⟩,
      ⟨some 28, none, .bin .lss (.t 27) (.k (.i .i64 0))⟩])
    (.cond (.t 28) (.seq (.ops [⟨some 2, none, .mv (.k (.sn))⟩,
      ⟨some 3, none, .mv (.k (.b false))⟩])
    (.ret))
    (.skip)))
    (.seq (.ops [⟨some 29, none, .mv (.t 5)⟩,
      ⟨some 30, none, .mv (.t 6)⟩,
      ⟨some 31, none, .ld (.t 4)⟩,
      ⟨some 32, none, .mv (.t 7)⟩,
      ⟨some 33, none, .ia 1 (.t 31) (.t 32)⟩,
      ⟨some 34, none, .ld (.t 33)⟩,
      ⟨some 35, none, .ia 1 (.t 29) (.t 30)⟩,
      ⟨none, none, .st 1 (.t 35) (.t 34)⟩])
    (.ops [⟨some 36, none, .ld (.t 4)⟩,
      ⟨some 37, none, .mv (.t 7)⟩,
      ⟨some 38, none, .mv (.t 7)⟩,
      ⟨some 39, none, .bin .add (.t 38) (.k (.i .i64 1))⟩,
      ⟨some 40, none, .call (.k (.fn n_slices_Delete_int [] [])) [.t 36, .t 37, .t 39]⟩,
      ⟨none, none, .st 1 (.t 4) (.t 40)⟩])))))
    (.ops [⟨some 22, none, .mv (.t 6)⟩,
      ⟨some 23, none, .bin .sub (.t 22) (.k (.i .i64 1))⟩,
      ⟨some 6, none, .mv (.t 23)⟩]))
def c_impl_AssignPriorities : LC := .seq (.ops [⟨some 1, none, .box ty_sl_impl_Task (.t 0)⟩,
      ⟨some 2, none, .mv (.k (.sn))⟩,
      ⟨some 3, none, .mv (.k (.b false))⟩])
    (.seq (.seq (.ops [⟨some 8, none, .ld (.t 1)⟩,
      ⟨some 9, none, .call (.k (.fn n_impl_SetValid [] [])) [.t 8]⟩,
      ⟨some 10, none, .not (.t 9)⟩])
    (.cond (.t 10) (.seq (.ops [⟨some 2, none, .mv (.k (.sn))⟩,
      ⟨some 3, none, .mv (.k (.b false))⟩])
    (.ret))
    (.skip)))
    (.seq (.ops [⟨some 11, none, .ld (.t 1)⟩,
      ⟨some 12, none, .len (.t 11)⟩,
      ⟨some 13, none, .call (.k (.fn n_impl_indices [] [])) [.t 12]⟩,
      ⟨some 4, none, .alloc ty_sl_int [.sn]⟩,
      ⟨none, none, .st 1 (.t 4) (.t 13)⟩])
    (.seq (.ops [⟨some 14, none, .ld (.t 1)⟩,
      ⟨some 15, none, .len (.t 14)⟩,
      ⟨some 16, none, .msl ty_int 8 [.i .i64 0] (.t 15)⟩,
      ⟨some 5, none, .mv (.t 16)⟩])
    (.seq (.seq (.ops [⟨some 17, none, .ld (.t 1)⟩,
      ⟨some 18, none, .len (.t 17)⟩,
      ⟨some 19, none, .bin .sub (.t 18) (.k (.i .i64 1))⟩,
      ⟨some 6, none, .mv (.t 19)⟩])
    (.block 0 (.loop l0_impl_AssignPriorities)))
    (.seq (.ops [⟨some 41, none, .mv (.t 5)⟩,
      ⟨some 2, none, .mv (.t 41)⟩,
      ⟨some 3, none, .mv (.k (.b true))⟩])
    (.ret))))))
theorem k_impl_AssignPriorities : chkF Try.prog Try.f37 42 c_impl_AssignPriorities [.t 2, .t 3] = true := by kernel_rfl
theorem call_impl_AssignPriorities {args : List AV} {σ : List AB} {K : AV → List AB → Prop} (hn : args.length ≤ 42) (hw : wpC Try.prog σ.length 42 c_impl_AssignPriorities (retP σ.length [.t 2, .t 3] K) ⟨initT 0 args, σ⟩) : CallWp Try.prog n_impl_AssignPriorities args σ K := call_fn mixed Try.func37 k_impl_AssignPriorities hn hw
def l0_impl_OrderValid : LC := .seq (.ops [⟨some 10, none, .bin .lss (.t 9) (.t 8)⟩])
    (.seq (.cond (.t 10) (.skip)
    (.exit 0))
    (.seq (.block 1 (.seq (.ops [⟨some 11, none, .mv (.t 9)⟩,
      ⟨some 12, none, .ia 1 (.t 7) (.t 9)⟩,
      ⟨some 13, none, .ld (.t 12)⟩,
      ⟨some 5, none, .mv (.t 11)⟩,
      ⟨some 6, none, .mv (.t 13)⟩])
    (.seq (.ops [⟨some 14, none, .mv (.t 6)⟩,
      ⟨some 15, none, .mv (.t 0)⟩,
      ⟨some 16, none, .len (.t 15)⟩,
      ⟨some 17, none, .bin .sub (.t 16) (.k (.i .i64 1))⟩,
      ⟨some 18, none, .call (.k (.fn n_impl_in [] [])) [.t 14, .k (.i .i64 0), .t 17]⟩,
      ⟨some 19, none, .not (.t 18)⟩,
      ⟨some 20, none, .mv (.t 19)⟩,
      ⟨some 21, (some (20, false)), .mv (.t 1)⟩,
      ⟨some 22, (some (20, false)), .mv (.t 6)⟩,
      ⟨some 23, (some (20, false)), .call (.k (.fn n_slices_Index_int [] [])) [.t 21, .t 22]⟩,
      ⟨some 24, (some (20, false)), .mv (.t 5)⟩,
      ⟨some 25, (some (20, false)), .bin .neq (.t 23) (.t 24)⟩,
      ⟨some 26, none, .pick (.t 20) (.k (.b true)) (.t 25)⟩])
    (.cond (.t 26) (.seq (.ops [⟨some 4, none, .mv (.k (.b false))⟩])
    (.ret))
    (.skip)))))
    (.ops [⟨some 27, none, .bin .add (.t 9) (.k (.i .i64 1))⟩,
      ⟨some 9, none, .mv (.t 27)⟩])))
def c_impl_OrderValid : LC := .seq (.ops [⟨some 4, none, .mv (.k (.b false))⟩])
    (.seq (.seq (.ops [⟨some 7, none, .mv (.t 1)⟩,
      ⟨some 8, none, .len (.t 7)⟩,
      ⟨some 9, none, .mv (.k (.i .i64 0))⟩])
    (.block 0 (.loop l0_impl_OrderValid)))
    (.seq (.ops [⟨some 28, none, .mv (.t 0)⟩,
      ⟨some 29, none, .call (.k (.fn n_impl_SetValid [] [])) [.t 28]⟩,
      ⟨some 30, none, .mv (.t 29)⟩,
      ⟨some 31, (some (30, true)), .mv (.t 1)⟩,
      ⟨some 32, (some (30, true)), .len (.t 31)⟩,
      ⟨some 33, (some (30, true)), .mv (.t 0)⟩,
      ⟨some 34, (some (30, true)), .len (.t 33)⟩,
      ⟨some 35, (some (30, true)), .bin .eql (.t 32) (.t 34)⟩,
      ⟨some 36, none, .pick (.t 30) (.t 35) (.k (.b false))⟩,
      ⟨some 4, none, .mv (.t 36)⟩])
    (.ret)))
theorem k_impl_OrderValid : chkF Try.prog Try.f38 37 c_impl_OrderValid [.t 4] = true := by kernel_rfl
theorem call_impl_OrderValid {args : List AV} {σ : List AB} {K : AV → List AB → Prop} (hn : args.length ≤ 37) (hw : wpC Try.prog σ.length 37 c_impl_OrderValid (retP σ.length [.t 4] K) ⟨initT 0 args, σ⟩) : CallWp Try.prog n_impl_OrderValid args σ K := call_fn mixed Try.func38 k_impl_OrderValid hn hw
def c_spec_l20Open : LC := .seq (.ops [⟨some 2, none, .mv (.k (.pn))⟩])
    (.join (.seq (.ops [⟨some 3, none, .mv (.t 0)⟩,
      ⟨some 4, none, .len (.t 3)⟩,
      ⟨some 5, none, .bin .gtr (.t 4) (.k (.i .i64 2000))⟩])
    (.cond (.t 5) (.ops [⟨some 6, none, .mv (.t 0)⟩,
      ⟨some 7, none, .slc 1 (.t 6) none (some (.k (.i .i64 2000))) none⟩,
      ⟨some 0, none, .mv (.t 7)⟩])
    (.skip)))
    (.seq (.ops [⟨some 8, none, .mv (.t 0)⟩,
      ⟨some 9, none, .build [.sn, .i .i64 0] [(0, 1, .t 8)]⟩,
      ⟨some 10, none, .box ty_spec_l20Rd (.t 9)⟩,
      ⟨some 2, none, .mv (.t 10)⟩])
    (.ret)))
theorem k_spec_l20Open : chkF Try.prog Try.f45 11 c_spec_l20Open [.t 2] = true := by kernel_rfl
theorem call_spec_l20Open {args : List AV} {σ : List AB} {K : AV → List AB → Prop} (hn : args.length ≤ 11) (hw : wpC Try.prog σ.length 11 c_spec_l20Open (retP σ.length [.t 2] K) ⟨initT 0 args, σ⟩) : CallWp Try.prog n_spec_l20Open args σ K := call_fn mixed Try.func45 k_spec_l20Open hn hw
def l0_spec_l20Set : LC := .seq (.seq (.ops [⟨some 25, none, .mv (.t 5)⟩,
      ⟨some 26, none, .len (.t 25)⟩,
      ⟨some 27, none, .bin .leq (.t 26) (.k (.i .i64 5))⟩])
    (.cond (.t 27) (.skip)
    (.exit 2)))
    (.block 3 (.ops [⟨some 28, none, .mv (.t 5)⟩,
      ⟨some 29, none, .mv (.t 0)⟩,
      ⟨some 30, none, .call (.k (.fn n_spec_l20Task [] [])) [.t 29, .k (.i .i64 0)]⟩,
      ⟨some 31, none, .bsl ty_impl_Task [.i .i64 0, .i .i64 0, .i .i64 0] 1 [(0, 3, .t 30)]⟩,
      ⟨some 32, none, .app ty_impl_Task 3 24 (.t 28) (.t 31)⟩,
      ⟨some 5, none, .mv (.t 32)⟩]))
def l1_spec_l20Set : LC := .seq (.seq (.ops [⟨some 10, none, .mv (.t 6)⟩,
      ⟨some 11, none, .bin .gtr (.t 10) (.k (.i .i64 0))⟩])
    (.cond (.t 11) (.skip)
    (.exit 0)))
    (.seq (.block 1 (.ops [⟨some 14, none, .mv (.t 5)⟩,
      ⟨some 15, none, .mv (.t 0)⟩,
      ⟨some 16, none, .call (.k (.fn n_spec_l20Task [] [])) [.t 15, .k (.i .i64 0)]⟩,
      ⟨some 17, none, .bsl ty_impl_Task [.i .i64 0, .i .i64 0, .i .i64 0] 1 [(0, 3, .t 16)]⟩,
      ⟨some 18, none, .app ty_impl_Task 3 24 (.t 14) (.t 17)⟩,
      ⟨some 5, none, .mv (.t 18)⟩]))
    (.ops [⟨some 12, none, .mv (.t 6)⟩,
      ⟨some 13, none, .bin .sub (.t 12) (.k (.i .i64 1))⟩,
      ⟨some 6, none, .mv (.t 13)⟩]))
def c_spec_l20Set : LC := .seq (.ops [⟨some 4, none, .mv (.k (.sn))⟩])
    (.seq (.ops [⟨some 7, none, .bsl ty_impl_Task [.i .i64 0, .i .i64 0, .i .i64 0] 0 []⟩,
      ⟨some 5, none, .mv (.t 7)⟩])
    (.seq (.seq (.ops [⟨some 8, none, .mv (.t 0)⟩,
      ⟨some 9, none, .call (.k (.fn n_spec_l20Rd_pick [] [])) [.t 8, .k (.i .i64 6)]⟩,
      ⟨some 6, none, .mv (.t 9)⟩])
    (.block 0 (.loop l1_spec_l20Set)))
    (.join (.seq (.ops [⟨some 19, none, .mv (.t 0)⟩,
      ⟨some 20, none, .mv (.t 1)⟩,
      ⟨some 21, none, .call (.k (.fn n_spec_l20Rd_odd [] [])) [.t 19, .t 20]⟩])
    (.cond (.t 21) (.seq (.seq (.ops [⟨some 22, none, .mv (.t 0)⟩,
      ⟨some 23, none, .call (.k (.fn n_spec_l20Rd_pick [] [])) [.t 22, .k (.i .i64 3)]⟩,
      ⟨some 24, none, .bin .eql (.t 23) (.k (.i .i64 0))⟩])
    (.cond (.t 24) (.block 2 (.loop l0_spec_l20Set))
    (.skip)))
    (.ops [⟨some 33, none, .mv (.t 5)⟩,
      ⟨some 34, none, .mv (.t 0)⟩,
      ⟨some 35, none, .call (.k (.fn n_spec_l20Task [] [])) [.t 34, .k (.i .i64 2)]⟩,
      ⟨some 36, none, .bsl ty_impl_Task [.i .i64 0, .i .i64 0, .i .i64 0] 1 [(0, 3, .t 35)]⟩,
      ⟨some 37, none, .app ty_impl_Task 3 24 (.t 33) (.t 36)⟩,
      ⟨some 5, none, .mv (.t 37)⟩]))
    (.skip)))
    (.seq (.ops [⟨some 38, none, .mv (.t 5)⟩,
      ⟨some 4, none, .mv (.t 38)⟩])
    (.ret)))))
theorem k_spec_l20Set : chkF Try.prog Try.f46 39 c_spec_l20Set [.t 4] = true := by kernel_rfl
theorem call_spec_l20Set {args : List AV} {σ : List AB} {K : AV → List AB → Prop} (hn : args.length ≤ 39) (hw : wpC Try.prog σ.length 39 c_spec_l20Set (retP σ.length [.t 4] K) ⟨initT 0 args, σ⟩) : CallWp Try.prog n_spec_l20Set args σ K := call_fn mixed Try.func46 k_spec_l20Set hn hw
def c_impl_TaskValid : LC := .seq (.ops [⟨some 1, none, .box ty_impl_Task (.t 0)⟩,
      ⟨some 2, none, .mv (.k (.b false))⟩])
    (.seq (.ops [⟨some 3, none, .fa 0 (.t 1)⟩,
      ⟨some 4, none, .ld (.t 3)⟩,
      ⟨some 5, none, .call (.k (.fn n_impl_in [] [])) [.t 4, .k (.i .i64 1), .k (.i .i64 8)]⟩,
      ⟨some 6, none, .mv (.t 5)⟩,
      ⟨some 7, (some (6, true)), .fa 1 (.t 1)⟩,
      ⟨some 8, (some (6, true)), .ld (.t 7)⟩,
      ⟨some 9, (some (6, true)), .fa 0 (.t 1)⟩,
      ⟨some 10, (some (6, true)), .ld (.t 9)⟩,
      ⟨some 11, (some (6, true)), .fa 2 (.t 1)⟩,
      ⟨some 12, (some (6, true)), .ld (.t 11)⟩,
      ⟨some 13, (some (6, true)), .call (.k (.fn n_impl_in [] [])) [.t 8, .t 10, .t 12]⟩,
      ⟨some 14, none, .pick (.t 6) (.t 13) (.k (.b false))⟩,
      ⟨some 15, none, .mv (.t 14)⟩,
      ⟨some 16, (some (15, true)), .fa 2 (.t 1)⟩,
      ⟨some 17, (some (15, true)), .ld (.t 16)⟩,
      ⟨some 18, (some (15, true)), .bin .leq (.t 17) (.k (.i .i64 12))⟩,
      ⟨some 19, none, .pick (.t 15) (.t 18) (.k (.b false))⟩,
      ⟨some 2, none, .mv (.t 19)⟩])
    (.ret))
theorem k_impl_TaskValid : chkF Try.prog Try.f53 20 c_impl_TaskValid [.t 2] = true := by kernel_rfl
theorem call_impl_TaskValid {args : List AV} {σ : List AB} {K : AV → List AB → Prop} (hn : args.length ≤ 20) (hw : wpC Try.prog σ.length 20 c_impl_TaskValid (retP σ.length [.t 2] K) ⟨initT 0 args, σ⟩) : CallWp Try.prog n_impl_TaskValid args σ K := call_fn mixed Try.func53 k_impl_TaskValid hn hw
def c_spec_l1In : LC := .seq (.ops [⟨some 6, none, .mv (.k (.b false))⟩])
    (.seq (.ops [⟨some 7, none, .mv (.t 0)⟩,
      ⟨some 8, none, .mv (.t 1)⟩,
      ⟨some 9, none, .bin .geq (.t 7) (.t 8)⟩,
      ⟨some 10, none, .mv (.t 9)⟩,
      ⟨some 11, (some (10, true)), .mv (.t 0)⟩,
      ⟨some 12, (some (10, true)), .mv (.t 2)⟩,
      ⟨some 13, (some (10, true)), .bin .leq (.t 11) (.t 12)⟩,
      ⟨some 14, none, .pick (.t 10) (.t 13) (.k (.b false))⟩,
      ⟨some 6, none, .mv (.t 14)⟩])
    (.ret))
theorem k_spec_l1In : chkF Try.prog Try.f54 15 c_spec_l1In [.t 6] = true := by kernel_rfl
theorem call_spec_l1In {args : List AV} {σ : List AB} {K : AV → List AB → Prop} (hn : args.length ≤ 15) (hw : wpC Try.prog σ.length 15 c_spec_l1In (retP σ.length [.t 6] K) ⟨initT 0 args, σ⟩) : CallWp Try.prog n_spec_l1In args σ K := call_fn mixed Try.func54 k_spec_l1In hn hw
def c_slices_Contains_int : LC := .seq (.ops [⟨some 4, none, .mv (.k (.b false))⟩])
    (.seq (.ops [⟨some 5, none, .mv (.t 0)⟩,
      ⟨some 6, none, .mv (.t 1)⟩,
      ⟨some 7, none, .call (.k (.fn n_slices_Index_int [] [])) [.t 5, .t 6]⟩,
      ⟨some 8, none, .bin .geq (.t 7) (.k (.i .i64 0))⟩,
      ⟨some 4, none, .mv (.t 8)⟩])
    (.ret))
theorem k_slices_Contains_int : chkF Try.prog Try.f57 9 c_slices_Contains_int [.t 4] = true := by kernel_rfl
theorem callC_slices_Contains_int {args : List AV} {σ : List AB} {K : AV → List AB → Prop} (hn : args.length ≤ 9) (hw : Closed σ → args.all (below1 σ.length) = true → wpC Try.prog σ.length 9 c_slices_Contains_int (retP σ.length [.t 4] K) ⟨initT 0 args, σ⟩) : CallWp Try.prog n_slices_Contains_int args σ K := call_fnC mixed Try.func57 k_slices_Contains_int hn hw
def l0_impl_responses : LC := .seq (.ops [⟨some 16, none, .bin .lss (.t 15) (.t 14)⟩])
    (.seq (.cond (.t 16) (.skip)
    (.exit 0))
    (.seq (.block 1 (.seq (.ops [⟨some 17, none, .mv (.t 15)⟩,
      ⟨some 18, none, .ia 1 (.t 13) (.t 15)⟩,
      ⟨some 19, none, .ld (.t 18)⟩,
      ⟨some 8, none, .mv (.t 17)⟩,
      ⟨some 9, none, .mv (.t 19)⟩])
    (.ops [⟨some 20, none, .mv (.t 7)⟩,
      ⟨some 21, none, .mv (.t 9)⟩,
      ⟨some 22, none, .mv (.t 0)⟩,
      ⟨some 23, none, .mv (.t 1)⟩,
      ⟨some 24, none, .mv (.t 9)⟩,
      ⟨some 25, none, .mv (.t 2)⟩,
      ⟨some 26, none, .mv (.t 8)⟩,
      ⟨some 27, none, .slc 1 (.t 25) none (some (.t 26)) none⟩,
      ⟨some 28, none, .call (.k (.fn n_impl_response [] [])) [.t 22, .t 23, .t 24, .t 27]⟩,
      ⟨some 29, none, .ia 1 (.t 20) (.t 21)⟩,
      ⟨none, none, .st 1 (.t 29) (.t 28)⟩])))
    (.ops [⟨some 30, none, .bin .add (.t 15) (.k (.i .i64 1))⟩,
      ⟨some 15, none, .mv (.t 30)⟩])))
def c_impl_responses : LC := .seq (.ops [⟨some 6, none, .mv (.k (.sn))⟩])
    (.seq (.ops [⟨some 10, none, .mv (.t 0)⟩,
      ⟨some 11, none, .len (.t 10)⟩,
      ⟨some 12, none, .msl ty_int 8 [.i .i64 0] (.t 11)⟩,
      ⟨some 7, none, .mv (.t 12)⟩])
    (.seq (.seq (.ops [⟨some 13, none, .mv (.t 2)⟩,
      ⟨some 14, none, .len (.t 13)⟩,
      ⟨some 15, none, .mv (.k (.i .i64 0))⟩])
    (.block 0 (.loop l0_impl_responses)))
    (.seq (.ops [⟨some 31, none, .mv (.t 7)⟩,
      ⟨some 6, none, .mv (.t 31)⟩])
    (.ret))))
theorem k_impl_responses : chkF Try.prog Try.f58 32 c_impl_responses [.t 6] = true := by kernel_rfl
theorem call_impl_responses {args : List AV} {σ : List AB} {K : AV → List AB → Prop} (hn : args.length ≤ 32) (hw : wpC Try.prog σ.length 32 c_impl_responses (retP σ.length [.t 6] K) ⟨initT 0 args, σ⟩) : CallWp Try.prog n_impl_responses args σ K := call_fn mixed Try.func58 k_impl_responses hn hw
def c_impl_SetValid : LC := .seq (.ops [⟨some 2, none, .mv (.k (.b false))⟩])
    (.seq (.ops [⟨some 3, none, .mv (.t 0)⟩,
      ⟨some 4, none, .len (.t 3)⟩,
      ⟨some 5, none, .bin .leq (.t 4) (.k (.i .i64 5))⟩,
      ⟨some 6, none, .mv (.t 5)⟩,
      ⟨some 7, (some (6, true)), .mv (.t 0)⟩,
      ⟨some 8, (some (6, true)), .call (.k (.fn n_slices_ContainsFunc_impl_Task [] [])) [.t 7, .k (.fn n_impl_SetValid_1 [] [])]⟩,
      ⟨some 9, (some (6, true)), .not (.t 8)⟩,
      ⟨some 10, none, .pick (.t 6) (.t 9) (.k (.b false))⟩,
      ⟨some 2, none, .mv (.t 10)⟩])
    (.ret))
theorem k_impl_SetValid : chkF Try.prog Try.f59 11 c_impl_SetValid [.t 2] = true := by kernel_rfl
theorem call_impl_SetValid {args : List AV} {σ : List AB} {K : AV → List AB → Prop} (hn : args.length ≤ 11) (hw : wpC Try.prog σ.length 11 c_impl_SetValid (retP σ.length [.t 2] K) ⟨initT 0 args, σ⟩) : CallWp Try.prog n_impl_SetValid args σ K := call_fn mixed Try.func59 k_impl_SetValid hn hw
def c_impl_in : LC := .seq (.ops [⟨some 6, none, .mv (.k (.b false))⟩])
    (.seq (.ops [⟨some 7, none, .mv (.t 0)⟩,
      ⟨some 8, none, .mv (.t 1)⟩,
      ⟨some 9, none, .bin .geq (.t 7) (.t 8)⟩,
      ⟨some 10, none, .mv (.t 9)⟩,
      ⟨some 11, (some (10, true)), .mv (.t 0)⟩,
      ⟨some 12, (some (10, true)), .mv (.t 2)⟩,
      ⟨some 13, (some (10, true)), .bin .leq (.t 11) (.t 12)⟩,
      ⟨some 14, none, .pick (.t 10) (.t 13) (.k (.b false))⟩,
      ⟨some 6, none, .mv (.t 14)⟩])
    (.ret))
theorem k_impl_in : chkF Try.prog Try.f64 15 c_impl_in [.t 6] = true := by kernel_rfl
theorem call_impl_in {args : List AV} {σ : List AB} {K : AV → List AB → Prop} (hn : args.length ≤ 15) (hw : wpC Try.prog σ.length 15 c_impl_in (retP σ.length [.t 6] K) ⟨initT 0 args, σ⟩) : CallWp Try.prog n_impl_in args σ K := call_fn mixed Try.func64 k_impl_in hn hw
def l0_impl_indices : LC := .seq (.ops [⟨some 10, none, .bin .lss (.t 9) (.t 8)⟩])
    (.seq (.cond (.t 10) (.skip)
    (.exit 0))
    (.seq (.block 1 (.seq (.ops [⟨some 11, none, .mv (.t 9)⟩,
      ⟨some 4, none, .mv (.t 11)⟩])
    (.ops [⟨some 12, none, .mv (.t 3)⟩,
      ⟨some 13, none, .mv (.t 4)⟩,
      ⟨some 14, none, .mv (.t 4)⟩,
      ⟨some 15, none, .ia 1 (.t 12) (.t 13)⟩,
      ⟨none, none, .st 1 (.t 15) (.t 14)⟩])))
    (.ops [⟨some 16, none, .bin .add (.t 9) (.k (.i .i64 1))⟩,
      ⟨some 9, none, .mv (.t 16)⟩])))
def c_impl_indices : LC := .seq (.ops [⟨some 2, none, .mv (.k (.sn))⟩])
    (.seq (.ops [⟨some 5, none, .mv (.t 0)⟩,
      ⟨some 6, none, .msl ty_int 8 [.i .i64 0] (.t 5)⟩,
      ⟨some 3, none, .mv (.t 6)⟩])
    (.seq (.seq (.ops [⟨some 7, none, .mv (.t 3)⟩,
      ⟨some 8, none, .len (.t 7)⟩,
      ⟨some 9, none, .mv (.k (.i .i64 0))⟩])
    (.block 0 (.loop l0_impl_indices)))
    (.seq (.ops [⟨some 17, none, .mv (.t 3)⟩,
      ⟨some 2, none, .mv (.t 17)⟩])
    (.ret))))
theorem k_impl_indices : chkF Try.prog Try.f66 18 c_impl_indices [.t 2] = true := by kernel_rfl
theorem call_impl_indices {args : List AV} {σ : List AB} {K : AV → List AB → Prop} (hn : args.length ≤ 18) (hw : wpC Try.prog σ.length 18 c_impl_indices (retP σ.length [.t 2] K) ⟨initT 0 args, σ⟩) : CallWp Try.prog n_impl_indices args σ K := call_fn mixed Try.func66 k_impl_indices hn hw
def c_slices_SortStableFunc_int : LC := .ops [⟨some 4, none, .mv (.t 0)⟩,
      ⟨some 5, none, .mv (.t 0)⟩,
      ⟨some 6, none, .len (.t 5)⟩,
      ⟨some 7, none, .mv (.t 1)⟩,
      ⟨some 8, none, .call (.k (.fn n_slices_stableCmpFunc_int [] [])) [.t 4, .t 6, .t 7]⟩]
theorem k_slices_SortStableFunc_int : chkF Try.prog Try.f67 9 c_slices_SortStableFunc_int [] = true := by kernel_rfl
theorem call_slices_SortStableFunc_int {args : List AV} {σ : List AB} {K : AV → List AB → Prop} (hn : args.length ≤ 9) (hw : wpC Try.prog σ.length 9 c_slices_SortStableFunc_int (retP σ.length [] K) ⟨initT 0 args, σ⟩) : CallWp Try.prog n_slices_SortStableFunc_int args σ K := call_fn mixed Try.func67 k_slices_SortStableFunc_int hn hw
end Go.Proofs.Ytgnlibnnpipbhaa
