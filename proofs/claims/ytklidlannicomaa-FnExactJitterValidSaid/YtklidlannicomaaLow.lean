/- Lowered code of Go functions, printed by a program of this session (lower.py), and that it is the loaded code: checked by the kernel. -/
import Derived.Test.YtklidlannicomaaProg
import Derived.Test.YtklidlannicomaaAbsK
import Derived.KernelRfl
namespace Go.Proofs.Ytklidlannicomaa
open Go.Abs
set_option maxRecDepth 100000

theorem mixed : Try.prog.follows .mixedOrders = true := by kernel_rfl
abbrev n_laws_FnExactJitterValid : Nat := 3
abbrev n_laws_FnJitterValid : Nat := 4
abbrev n_laws_FnExactJitterLegal : Nat := 5
abbrev n_laws_FnExactJitterResponse : Nat := 6
abbrev n_laws_FnJitterResponse : Nat := 7
abbrev n_laws_FnJitterLegal : Nat := 8
abbrev n_laws_szTaskS : Nat := 9
abbrev n_spec_JitterValid : Nat := 10
abbrev n_laws_toTaskS : Nat := 11
abbrev n_laws_toIntS : Nat := 12
abbrev n_impl_JitterValid : Nat := 13
abbrev n_laws_eqTaskS : Nat := 14
abbrev n_laws_eqIntS : Nat := 15
abbrev n_spec_DrawJitterValid : Nat := 16
abbrev n_spec_SetValid : Nat := 17
abbrev n_laws_alive : Nat := 18
abbrev n_laws_szJobS : Nat := 19
abbrev n_spec_JitterLegal : Nat := 20
abbrev n_laws_toJobS : Nat := 21
abbrev n_impl_JitterLegal : Nat := 22
abbrev n_laws_eqJobS : Nat := 23
abbrev n_spec_JitterResponse : Nat := 24
abbrev n_impl_JitterResponse : Nat := 25
abbrev n_laws_markTaskS : Nat := 26
abbrev n_laws_markIntS : Nat := 27
abbrev n_laws_heldIntS : Nat := 28
abbrev n_spec_DrawJitterResponse : Nat := 29
abbrev n_laws_sameInts : Nat := 30
abbrev n_impl_ResponseTimes : Nat := 31
abbrev n_spec_OrderValid : Nat := 32
abbrev n_spec_DrawJitterLegal : Nat := 33
abbrev n_impl_JobsLegal : Nat := 34
abbrev n_spec_l1In : Nat := 35
abbrev n_laws_toTask : Nat := 36
abbrev n_impl_SetValid : Nat := 37
abbrev n_impl_in : Nat := 38
abbrev n_laws_eqTask : Nat := 39
abbrev n_spec_l20Open : Nat := 40
abbrev n_spec_l20Set : Nat := 41
abbrev n_spec_l20Jitter : Nat := 42
abbrev n_spec_TaskValid : Nat := 43
abbrev n_impl_TaskValid : Nat := 44
abbrev n_laws_toJob : Nat := 45
abbrev n_impl_ordered : Nat := 46
abbrev n_impl_JitterLegal_1 : Nat := 47
abbrev n_impl_arrival : Nat := 48
abbrev n_impl_spaced : Nat := 49
abbrev n_impl_JitterLegal_2 : Nat := 50
abbrev n_impl_JitterLegal_3 : Nat := 51
abbrev n_laws_eqJob : Nat := 52
abbrev n_spec_l16Response : Nat := 53
abbrev n_impl_OrderValid : Nat := 54
abbrev n_impl_responses : Nat := 55
abbrev n_spec_l20Order : Nat := 56
abbrev n_spec_l4Index : Nat := 57
abbrev n_spec_l20Late : Nat := 58
abbrev n_impl_JobsLegal_1 : Nat := 59
abbrev n_impl_release : Nat := 60
abbrev n_impl_JobsLegal_2 : Nat := 61
abbrev n_slices_ContainsFunc_impl_Job : Nat := 62
abbrev n_impl_JobsLegal_3 : Nat := 63
abbrev n_slices_ContainsFunc_impl_Task : Nat := 64
abbrev n_impl_SetValid_1 : Nat := 65
abbrev n_spec_l20Rd_pick : Nat := 66
abbrev n_spec_l20Task : Nat := 67
abbrev n_spec_l20Rd_odd : Nat := 68
abbrev n_slices_Index_int : Nat := 69
abbrev n_impl_response : Nat := 70
abbrev n_spec_l20Jobs : Nat := 71
abbrev n_slices_IndexFunc_impl_Job : Nat := 72
abbrev n_slices_IndexFunc_impl_Task : Nat := 73
abbrev n_impl_ceil : Nat := 74
abbrev ty_int : Nat := 3
abbrev ty_bool : Nat := 4
abbrev ty_uint8 : Nat := 5
abbrev ty_string : Nat := 9
abbrev ty_ptr_runtime_TypeAssertionError : Nat := 15
abbrev ty_ptr_runtime_PanicNilError : Nat := 16
abbrev ty_ptr_abi_Type : Nat := 17
abbrev ty_sl_laws_Task : Nat := 22
abbrev ty_sl_int : Nat := 23
abbrev ty_sl_impl_Task : Nat := 26
abbrev ty_sl_uint8 : Nat := 32
abbrev ty_impl_Task : Nat := 38
abbrev ty_sl_laws_Job : Nat := 40
abbrev ty_sl_impl_Job : Nat := 43
abbrev ty_laws_Task : Nat := 59
abbrev ty_ptr_spec_l20Rd : Nat := 61
abbrev ty_impl_Job : Nat := 67
abbrev ty_laws_Job : Nat := 69
abbrev ty_spec_l20Rd : Nat := 83
abbrev ty_ptr_uint8 : Nat := 104

-- loop.example/deadlinescheduler/impl.in
def c_impl_in : LC := .seq (.ops [⟨some 6, none, .mv (.k (.b false))⟩])
    (.seq (.ops [⟨some 7, none, .mv (.t 0)⟩,
      ⟨some 8, none, .mv (.t 1)⟩,
      ⟨some 9, none, .bin .geq (.t 7) (.t 8)⟩,
      ⟨some 10, none, .mv (.t 9)⟩,
      ⟨some 11, (some (10, true)), .mv (.t 0)⟩,
      ⟨some 12, (some (10, true)), .mv (.t 2)⟩,
      ⟨some 13, (some (10, true)), .bin .leq (.t 11) (.t 12)⟩,
      ⟨some 14, none, .pick (.t 10) (.t 13) (.k (.b false))⟩,
      ⟨some 6, none, .mv (.t 14)⟩])
    (.ret))
theorem k_impl_in : chkF Try.prog Try.f38 15 c_impl_in [.t 6] = true := by kernel_rfl
theorem call_impl_in {args : List AV} {σ : List AB} {K : AV → List AB → Prop} (hn : args.length ≤ 15) (hw : wpC Try.prog σ.length 15 c_impl_in (retP σ.length [.t 6] K) ⟨initT 0 args, σ⟩) : CallWp Try.prog n_impl_in args σ K := call_fn mixed Try.func38 k_impl_in hn hw

-- loop.example/deadlinescheduler/spec.l1In
def c_spec_l1In : LC := .seq (.ops [⟨some 6, none, .mv (.k (.b false))⟩])
    (.seq (.ops [⟨some 7, none, .mv (.t 0)⟩,
      ⟨some 8, none, .mv (.t 1)⟩,
      ⟨some 9, none, .bin .geq (.t 7) (.t 8)⟩,
      ⟨some 10, none, .mv (.t 9)⟩,
      ⟨some 11, (some (10, true)), .mv (.t 0)⟩,
      ⟨some 12, (some (10, true)), .mv (.t 2)⟩,
      ⟨some 13, (some (10, true)), .bin .leq (.t 11) (.t 12)⟩,
      ⟨some 14, none, .pick (.t 10) (.t 13) (.k (.b false))⟩,
      ⟨some 6, none, .mv (.t 14)⟩])
    (.ret))
theorem k_spec_l1In : chkF Try.prog Try.f35 15 c_spec_l1In [.t 6] = true := by kernel_rfl
theorem call_spec_l1In {args : List AV} {σ : List AB} {K : AV → List AB → Prop} (hn : args.length ≤ 15) (hw : wpC Try.prog σ.length 15 c_spec_l1In (retP σ.length [.t 6] K) ⟨initT 0 args, σ⟩) : CallWp Try.prog n_spec_l1In args σ K := call_fn mixed Try.func35 k_spec_l1In hn hw

-- loop.example/deadlinescheduler/spec.TaskValid
def c_spec_TaskValid : LC := .seq (.ops [⟨some 1, none, .box ty_impl_Task (.t 0)⟩,
      ⟨some 2, none, .mv (.k (.b false))⟩])
    (.seq (.ops [⟨some 3, none, .fa 0 (.t 1)⟩,
      ⟨some 4, none, .ld (.t 3)⟩,
      ⟨some 5, none, .call (.k (.fn n_spec_l1In [] [])) [.t 4, .k (.i .i64 1), .k (.i .i64 8)]⟩,
      ⟨some 6, none, .mv (.t 5)⟩,
      ⟨some 7, (some (6, true)), .fa 1 (.t 1)⟩,
      ⟨some 8, (some (6, true)), .ld (.t 7)⟩,
      ⟨some 9, (some (6, true)), .fa 0 (.t 1)⟩,
      ⟨some 10, (some (6, true)), .ld (.t 9)⟩,
      ⟨some 11, (some (6, true)), .fa 2 (.t 1)⟩,
      ⟨some 12, (some (6, true)), .ld (.t 11)⟩,
      ⟨some 13, (some (6, true)), .call (.k (.fn n_spec_l1In [] [])) [.t 8, .t 10, .t 12]⟩,
      ⟨some 14, none, .pick (.t 6) (.t 13) (.k (.b false))⟩,
      ⟨some 15, none, .mv (.t 14)⟩,
      ⟨some 16, (some (15, true)), .fa 2 (.t 1)⟩,
      ⟨some 17, (some (15, true)), .ld (.t 16)⟩,
      ⟨some 18, (some (15, true)), .call (.k (.fn n_spec_l1In [] [])) [.t 17, .k (.i .i64 1), .k (.i .i64 12)]⟩,
      ⟨some 19, none, .pick (.t 15) (.t 18) (.k (.b false))⟩,
      ⟨some 2, none, .mv (.t 19)⟩])
    (.ret))
theorem k_spec_TaskValid : chkF Try.prog Try.f43 20 c_spec_TaskValid [.t 2] = true := by kernel_rfl
theorem call_spec_TaskValid {args : List AV} {σ : List AB} {K : AV → List AB → Prop} (hn : args.length ≤ 20) (hw : wpC Try.prog σ.length 20 c_spec_TaskValid (retP σ.length [.t 2] K) ⟨initT 0 args, σ⟩) : CallWp Try.prog n_spec_TaskValid args σ K := call_fn mixed Try.func43 k_spec_TaskValid hn hw

-- loop.example/deadlinescheduler/impl.TaskValid
def c_impl_TaskValid : LC := .seq (.ops [⟨some 1, none, .box ty_impl_Task (.t 0)⟩,
      ⟨some 2, none, .mv (.k (.b false))⟩])
    (.seq (.ops [⟨some 3, none, .fa 0 (.t 1)⟩,
      ⟨some 4, none, .ld (.t 3)⟩,
      ⟨some 5, none, .call (.k (.fn n_impl_in [] [])) [.t 4, .k (.i .i64 1), .k (.i .i64 8)]⟩,
      ⟨some 6, none, .mv (.t 5)⟩,
      ⟨some 7, (some (6, true)), .fa 1 (.t 1)⟩,
      ⟨some 8, (some (6, true)), .ld (.t 7)⟩,
      ⟨some 9, (some (6, true)), .fa 0 (.t 1)⟩,
      ⟨some 10, (some (6, true)), .ld (.t 9)⟩,
      ⟨some 11, (some (6, true)), .fa 2 (.t 1)⟩,
      ⟨some 12, (some (6, true)), .ld (.t 11)⟩,
      ⟨some 13, (some (6, true)), .call (.k (.fn n_impl_in [] [])) [.t 8, .t 10, .t 12]⟩,
      ⟨some 14, none, .pick (.t 6) (.t 13) (.k (.b false))⟩,
      ⟨some 15, none, .mv (.t 14)⟩,
      ⟨some 16, (some (15, true)), .fa 2 (.t 1)⟩,
      ⟨some 17, (some (15, true)), .ld (.t 16)⟩,
      ⟨some 18, (some (15, true)), .bin .leq (.t 17) (.k (.i .i64 12))⟩,
      ⟨some 19, none, .pick (.t 15) (.t 18) (.k (.b false))⟩,
      ⟨some 2, none, .mv (.t 19)⟩])
    (.ret))
theorem k_impl_TaskValid : chkF Try.prog Try.f44 20 c_impl_TaskValid [.t 2] = true := by kernel_rfl
theorem call_impl_TaskValid {args : List AV} {σ : List AB} {K : AV → List AB → Prop} (hn : args.length ≤ 20) (hw : wpC Try.prog σ.length 20 c_impl_TaskValid (retP σ.length [.t 2] K) ⟨initT 0 args, σ⟩) : CallWp Try.prog n_impl_TaskValid args σ K := call_fn mixed Try.func44 k_impl_TaskValid hn hw

-- loop.example/deadlinescheduler/spec.SetValid
-- l0_spec_SetValid: live at the head: 0 3
def l0_spec_SetValid : LC := .seq (.seq (.ops [⟨some 4, none, .mv (.t 3)⟩,
      ⟨some 5, none, .mv (.t 0)⟩,
      ⟨some 6, none, .len (.t 5)⟩,
      ⟨some 7, none, .bin .lss (.t 4) (.t 6)⟩])
    (.cond (.t 7) (.skip)
    (.exit 0)))
    (.seq (.block 1 (.seq (.ops [⟨some 10, none, .mv (.t 0)⟩,
      ⟨some 11, none, .mv (.t 3)⟩,
      ⟨some 12, none, .ia 3 (.t 10) (.t 11)⟩,
      ⟨some 13, none, .ldn 3 (.t 12)⟩,
      ⟨some 14, none, .call (.k (.fn n_spec_TaskValid [] [])) [.t 13]⟩,
      ⟨some 15, none, .not (.t 14)⟩])
    (.cond (.t 15) (.seq (.ops [⟨some 2, none, .mv (.k (.b false))⟩])
    (.ret))
    (.skip))))
    (.ops [⟨some 8, none, .mv (.t 3)⟩,
      ⟨some 9, none, .bin .add (.t 8) (.k (.i .i64 1))⟩,
      ⟨some 3, none, .mv (.t 9)⟩]))
def c_spec_SetValid : LC := .seq (.ops [⟨some 2, none, .mv (.k (.b false))⟩])
    (.seq (.seq (.ops [⟨some 3, none, .mv (.k (.i .i64 0))⟩])
    (.block 0 (.loop l0_spec_SetValid)))
    (.seq (.ops [⟨some 16, none, .mv (.t 0)⟩,
      ⟨some 17, none, .len (.t 16)⟩,
      ⟨some 18, none, .bin .leq (.t 17) (.k (.i .i64 5))⟩,
      ⟨some 2, none, .mv (.t 18)⟩])
    (.ret)))
theorem k_spec_SetValid : chkF Try.prog Try.f17 19 c_spec_SetValid [.t 2] = true := by kernel_rfl
theorem call_spec_SetValid {args : List AV} {σ : List AB} {K : AV → List AB → Prop} (hn : args.length ≤ 19) (hw : wpC Try.prog σ.length 19 c_spec_SetValid (retP σ.length [.t 2] K) ⟨initT 0 args, σ⟩) : CallWp Try.prog n_spec_SetValid args σ K := call_fn mixed Try.func17 k_spec_SetValid hn hw

-- loop.example/deadlinescheduler/impl.SetValid
def c_impl_SetValid : LC := .seq (.ops [⟨some 2, none, .mv (.k (.b false))⟩])
    (.seq (.ops [⟨some 3, none, .mv (.t 0)⟩,
      ⟨some 4, none, .len (.t 3)⟩,
      ⟨some 5, none, .bin .leq (.t 4) (.k (.i .i64 5))⟩,
      ⟨some 6, none, .mv (.t 5)⟩,
      ⟨some 7, (some (6, true)), .mv (.t 0)⟩,
      ⟨some 8, (some (6, true)), .call (.k (.fn n_slices_ContainsFunc_impl_Task [] [])) [.t 7, .k (.fn n_impl_SetValid_1 [] [])]⟩,
      ⟨some 9, (some (6, true)), .not (.t 8)⟩,
      ⟨some 10, none, .pick (.t 6) (.t 9) (.k (.b false))⟩,
      ⟨some 2, none, .mv (.t 10)⟩])
    (.ret))
theorem k_impl_SetValid : chkF Try.prog Try.f37 11 c_impl_SetValid [.t 2] = true := by kernel_rfl
theorem call_impl_SetValid {args : List AV} {σ : List AB} {K : AV → List AB → Prop} (hn : args.length ≤ 11) (hw : wpC Try.prog σ.length 11 c_impl_SetValid (retP σ.length [.t 2] K) ⟨initT 0 args, σ⟩) : CallWp Try.prog n_impl_SetValid args σ K := call_fn mixed Try.func37 k_impl_SetValid hn hw

-- loop.example/deadlinescheduler/impl.SetValid$1
def c_impl_SetValid_1 : LC := .seq (.ops [⟨some 1, none, .box ty_impl_Task (.t 0)⟩,
      ⟨some 2, none, .mv (.k (.b false))⟩])
    (.seq (.ops [⟨some 3, none, .ldn 3 (.t 1)⟩,
      ⟨some 4, none, .call (.k (.fn n_impl_TaskValid [] [])) [.t 3]⟩,
      ⟨some 5, none, .not (.t 4)⟩,
      ⟨some 2, none, .mv (.t 5)⟩])
    (.ret))
theorem k_impl_SetValid_1 : chkF Try.prog Try.f65 6 c_impl_SetValid_1 [.t 2] = true := by kernel_rfl
theorem call_impl_SetValid_1 {args : List AV} {σ : List AB} {K : AV → List AB → Prop} (hn : args.length ≤ 6) (hw : wpC Try.prog σ.length 6 c_impl_SetValid_1 (retP σ.length [.t 2] K) ⟨initT 0 args, σ⟩) : CallWp Try.prog n_impl_SetValid_1 args σ K := call_fn mixed Try.func65 k_impl_SetValid_1 hn hw

-- slices.IndexFunc[[]loop.example/deadlinescheduler/impl.Task,loop.example/deadlinescheduler/impl.Task]
-- l0_slices_IndexFunc_impl_Task: live at the head: 0 1 7 8
def l0_slices_IndexFunc_impl_Task : LC := .seq (.ops [⟨some 9, none, .bin .lss (.t 8) (.t 7)⟩])
    (.seq (.cond (.t 9) (.skip)
    (.exit 0))
    (.seq (.block 1 (.seq (.ops [⟨some 10, none, .mv (.t 8)⟩,
      ⟨some 5, none, .mv (.t 10)⟩])
    (.seq (.ops [⟨some 11, none, .mv (.t 1)⟩,
      ⟨some 12, none, .mv (.t 0)⟩,
      ⟨some 13, none, .mv (.t 5)⟩,
      ⟨some 14, none, .ia 3 (.t 12) (.t 13)⟩,
      ⟨some 15, none, .ldn 3 (.t 14)⟩,
      ⟨some 16, none, .call (.t 11) [.t 15]⟩])
    (.cond (.t 16) (.seq (.ops [⟨some 17, none, .mv (.t 5)⟩,
      ⟨some 4, none, .mv (.t 17)⟩])
    (.ret))
    (.skip)))))
    (.ops [⟨some 18, none, .bin .add (.t 8) (.k (.i .i64 1))⟩,
      ⟨some 8, none, .mv (.t 18)⟩])))
def c_slices_IndexFunc_impl_Task : LC := .seq (.ops [⟨some 4, none, .mv (.k (.i .i64 0))⟩])
    (.seq (.seq (.ops [⟨some 6, none, .mv (.t 0)⟩,
      ⟨some 7, none, .len (.t 6)⟩,
      ⟨some 8, none, .mv (.k (.i .i64 0))⟩])
    (.block 0 (.loop l0_slices_IndexFunc_impl_Task)))
    (.seq (.ops [⟨some 4, none, .mv (.k (.i .i64 (-1)))⟩])
    (.ret)))
theorem k_slices_IndexFunc_impl_Task : chkF Try.prog Try.f73 19 c_slices_IndexFunc_impl_Task [.t 4] = true := by kernel_rfl
theorem call_slices_IndexFunc_impl_Task {args : List AV} {σ : List AB} {K : AV → List AB → Prop} (hn : args.length ≤ 19) (hw : wpC Try.prog σ.length 19 c_slices_IndexFunc_impl_Task (retP σ.length [.t 4] K) ⟨initT 0 args, σ⟩) : CallWp Try.prog n_slices_IndexFunc_impl_Task args σ K := call_fn mixed Try.func73 k_slices_IndexFunc_impl_Task hn hw

-- slices.ContainsFunc[[]loop.example/deadlinescheduler/impl.Task,loop.example/deadlinescheduler/impl.Task]
def c_slices_ContainsFunc_impl_Task : LC := .seq (.ops [⟨some 4, none, .mv (.k (.b false))⟩])
    (.seq (.ops [⟨some 5, none, .mv (.t 0)⟩,
      ⟨some 6, none, .mv (.t 1)⟩,
      ⟨some 7, none, .call (.k (.fn n_slices_IndexFunc_impl_Task [] [])) [.t 5, .t 6]⟩,
      ⟨some 8, none, .bin .geq (.t 7) (.k (.i .i64 0))⟩,
      ⟨some 4, none, .mv (.t 8)⟩])
    (.ret))
theorem k_slices_ContainsFunc_impl_Task : chkF Try.prog Try.f64 9 c_slices_ContainsFunc_impl_Task [.t 4] = true := by kernel_rfl
theorem call_slices_ContainsFunc_impl_Task {args : List AV} {σ : List AB} {K : AV → List AB → Prop} (hn : args.length ≤ 9) (hw : wpC Try.prog σ.length 9 c_slices_ContainsFunc_impl_Task (retP σ.length [.t 4] K) ⟨initT 0 args, σ⟩) : CallWp Try.prog n_slices_ContainsFunc_impl_Task args σ K := call_fn mixed Try.func64 k_slices_ContainsFunc_impl_Task hn hw

-- loop.example/deadlinescheduler/impl.JitterValid
-- region 6 draws, 14 of 14 first
-- l0_impl_JitterValid: live at the head: 0 17 18 19
def l0_impl_JitterValid : LC := .seq (.ops [⟨some 20, none, .bin .lss (.t 19) (.t 18)⟩])
    (.seq (.cond (.t 20) (.skip)
    (.exit 0))
    (.seq (.block 1 (.seq (.ops [⟨some 21, none, .mv (.t 19)⟩,
      ⟨some 22, none, .ia 1 (.t 17) (.t 19)⟩,
      ⟨some 23, none, .ld (.t 22)⟩,
      ⟨some 5, none, .mv (.t 21)⟩,
      ⟨some 6, none, .mv (.t 23)⟩])
    (.seq (.draw 14 [⟨some 24, none, .mv (.t 6)⟩,
      ⟨some 25, none, .mv (.t 0)⟩,
      ⟨some 26, none, .mv (.t 5)⟩,
      ⟨some 27, none, .ia 3 (.t 25) (.t 26)⟩,
      ⟨some 28, none, .fa 1 (.t 27)⟩,
      ⟨some 29, none, .ld (.t 28)⟩,
      ⟨some 30, none, .mv (.t 0)⟩,
      ⟨some 31, none, .mv (.t 5)⟩,
      ⟨some 32, none, .ia 3 (.t 30) (.t 31)⟩,
      ⟨some 33, none, .fa 0 (.t 32)⟩,
      ⟨some 34, none, .ld (.t 33)⟩,
      ⟨some 35, none, .bin .sub (.t 29) (.t 34)⟩,
      ⟨some 36, none, .call (.k (.fn n_impl_in [] [])) [.t 24, .k (.i .i64 0), .t 35]⟩,
      ⟨some 37, none, .not (.t 36)⟩])
    (.cond (.t 37) (.seq (.ops [⟨some 4, none, .mv (.k (.b false))⟩])
    (.ret))
    (.skip)))))
    (.ops [⟨some 38, none, .bin .add (.t 19) (.k (.i .i64 1))⟩,
      ⟨some 19, none, .mv (.t 38)⟩])))
def c_impl_JitterValid : LC := .seq (.ops [⟨some 4, none, .mv (.k (.b false))⟩])
    (.seq (.seq (.ops [⟨some 7, none, .mv (.t 0)⟩,
      ⟨some 8, none, .call (.k (.fn n_impl_SetValid [] [])) [.t 7]⟩,
      ⟨some 9, none, .not (.t 8)⟩,
      ⟨some 10, none, .mv (.t 9)⟩,
      ⟨some 11, (some (10, false)), .mv (.t 1)⟩,
      ⟨some 12, (some (10, false)), .len (.t 11)⟩,
      ⟨some 13, (some (10, false)), .mv (.t 0)⟩,
      ⟨some 14, (some (10, false)), .len (.t 13)⟩,
      ⟨some 15, (some (10, false)), .bin .neq (.t 12) (.t 14)⟩,
      ⟨some 16, none, .pick (.t 10) (.k (.b true)) (.t 15)⟩])
    (.cond (.t 16) (.seq (.ops [⟨some 4, none, .mv (.k (.b false))⟩])
    (.ret))
    (.skip)))
    (.seq (.seq (.ops [⟨some 17, none, .mv (.t 1)⟩,
      ⟨some 18, none, .len (.t 17)⟩,
      ⟨some 19, none, .mv (.k (.i .i64 0))⟩])
    (.block 0 (.loop l0_impl_JitterValid)))
    (.seq (.ops [⟨some 4, none, .mv (.k (.b true))⟩])
    (.ret))))
theorem k_impl_JitterValid : chkF Try.prog Try.f13 39 c_impl_JitterValid [.t 4] = true := by kernel_rfl
theorem call_impl_JitterValid {args : List AV} {σ : List AB} {K : AV → List AB → Prop} (hn : args.length ≤ 39) (hw : wpC Try.prog σ.length 39 c_impl_JitterValid (retP σ.length [.t 4] K) ⟨initT 0 args, σ⟩) : CallWp Try.prog n_impl_JitterValid args σ K := call_fn mixed Try.func13 k_impl_JitterValid hn hw

-- loop.example/deadlinescheduler/spec.JitterValid
-- region 6 draws, 17 of 17 first
-- l0_spec_JitterValid: live at the head: 0 1 5
def l0_spec_JitterValid : LC := .seq (.seq (.ops [⟨some 16, none, .mv (.t 5)⟩,
      ⟨some 17, none, .mv (.t 0)⟩,
      ⟨some 18, none, .len (.t 17)⟩,
      ⟨some 19, none, .bin .lss (.t 16) (.t 18)⟩])
    (.cond (.t 19) (.skip)
    (.exit 0)))
    (.seq (.block 1 (.seq (.draw 17 [⟨some 22, none, .mv (.t 1)⟩,
      ⟨some 23, none, .mv (.t 5)⟩,
      ⟨some 24, none, .ia 1 (.t 22) (.t 23)⟩,
      ⟨some 25, none, .ld (.t 24)⟩,
      ⟨some 26, none, .mv (.t 0)⟩,
      ⟨some 27, none, .mv (.t 5)⟩,
      ⟨some 28, none, .ia 3 (.t 26) (.t 27)⟩,
      ⟨some 29, none, .fa 1 (.t 28)⟩,
      ⟨some 30, none, .ld (.t 29)⟩,
      ⟨some 31, none, .mv (.t 0)⟩,
      ⟨some 32, none, .mv (.t 5)⟩,
      ⟨some 33, none, .ia 3 (.t 31) (.t 32)⟩,
      ⟨some 34, none, .fa 0 (.t 33)⟩,
      ⟨some 35, none, .ld (.t 34)⟩,
      ⟨some 36, none, .bin .sub (.t 30) (.t 35)⟩,
      ⟨some 37, none, .call (.k (.fn n_spec_l1In [] [])) [.t 25, .k (.i .i64 0), .t 36]⟩,
      ⟨some 38, none, .not (.t 37)⟩])
    (.cond (.t 38) (.seq (.ops [⟨some 4, none, .mv (.k (.b false))⟩])
    (.ret))
    (.skip))))
    (.ops [⟨some 20, none, .mv (.t 5)⟩,
      ⟨some 21, none, .bin .add (.t 20) (.k (.i .i64 1))⟩,
      ⟨some 5, none, .mv (.t 21)⟩]))
def c_spec_JitterValid : LC := .seq (.ops [⟨some 4, none, .mv (.k (.b false))⟩])
    (.seq (.seq (.ops [⟨some 6, none, .mv (.t 0)⟩,
      ⟨some 7, none, .call (.k (.fn n_spec_SetValid [] [])) [.t 6]⟩,
      ⟨some 8, none, .not (.t 7)⟩,
      ⟨some 9, none, .mv (.t 8)⟩,
      ⟨some 10, (some (9, false)), .mv (.t 1)⟩,
      ⟨some 11, (some (9, false)), .len (.t 10)⟩,
      ⟨some 12, (some (9, false)), .mv (.t 0)⟩,
      ⟨some 13, (some (9, false)), .len (.t 12)⟩,
      ⟨some 14, (some (9, false)), .bin .neq (.t 11) (.t 13)⟩,
      ⟨some 15, none, .pick (.t 9) (.k (.b true)) (.t 14)⟩])
    (.cond (.t 15) (.seq (.ops [⟨some 4, none, .mv (.k (.b false))⟩])
    (.ret))
    (.skip)))
    (.seq (.seq (.ops [⟨some 5, none, .mv (.k (.i .i64 0))⟩])
    (.block 0 (.loop l0_spec_JitterValid)))
    (.seq (.ops [⟨some 4, none, .mv (.k (.b true))⟩])
    (.ret))))
theorem k_spec_JitterValid : chkF Try.prog Try.f10 39 c_spec_JitterValid [.t 4] = true := by kernel_rfl
theorem call_spec_JitterValid {args : List AV} {σ : List AB} {K : AV → List AB → Prop} (hn : args.length ≤ 39) (hw : wpC Try.prog σ.length 39 c_spec_JitterValid (retP σ.length [.t 4] K) ⟨initT 0 args, σ⟩) : CallWp Try.prog n_spec_JitterValid args σ K := call_fn mixed Try.func10 k_spec_JitterValid hn hw

-- loop.example/deadlinescheduler/laws.FnExactJitterValid
def c_laws_FnExactJitterValid : LC := .seq (.ops [⟨some 4, none, .mv (.k (.b false))⟩])
    (.seq (.seq (.ops [⟨some 10, none, .mv (.t 1)⟩,
      ⟨some 11, none, .len (.t 10)⟩,
      ⟨some 12, none, .bin .gtr (.t 11) (.k (.i .i64 1048576))⟩])
    (.cond (.t 12) (.seq (.ops [⟨some 4, none, .mv (.k (.b true))⟩])
    (.ret))
    (.skip)))
    (.seq (.ops [⟨some 5, none, .mv (.k (.i .i64 1048576))⟩])
    (.seq (.ops [⟨some 13, none, .mv (.t 0)⟩,
      ⟨some 14, none, .mv (.t 5)⟩,
      ⟨some 15, none, .call (.k (.fn n_laws_szTaskS [] [])) [.t 13, .t 14]⟩,
      ⟨some 5, none, .mv (.t 15)⟩])
    (.seq (.seq (.ops [⟨some 16, none, .mv (.t 5)⟩,
      ⟨some 17, none, .bin .lss (.t 16) (.k (.i .i64 0))⟩])
    (.cond (.t 17) (.seq (.ops [⟨some 4, none, .mv (.k (.b true))⟩])
    (.ret))
    (.skip)))
    (.seq (.ops [⟨some 18, none, .mv (.t 0)⟩,
      ⟨some 19, none, .call (.k (.fn n_laws_toTaskS [] [])) [.t 18]⟩,
      ⟨some 20, none, .mv (.t 1)⟩,
      ⟨some 21, none, .call (.k (.fn n_laws_toIntS [] [])) [.t 20]⟩,
      ⟨some 22, none, .call (.k (.fn n_spec_JitterValid [] [])) [.t 19, .t 21]⟩,
      ⟨some 6, none, .mv (.t 22)⟩])
    (.seq (.ops [⟨some 23, none, .mv (.t 0)⟩,
      ⟨some 24, none, .call (.k (.fn n_laws_toTaskS [] [])) [.t 23]⟩,
      ⟨some 7, none, .mv (.t 24)⟩])
    (.seq (.ops [⟨some 25, none, .mv (.t 1)⟩,
      ⟨some 26, none, .call (.k (.fn n_laws_toIntS [] [])) [.t 25]⟩,
      ⟨some 8, none, .mv (.t 26)⟩])
    (.seq (.ops [⟨some 27, none, .mv (.t 7)⟩,
      ⟨some 28, none, .mv (.t 8)⟩,
      ⟨some 29, none, .call (.k (.fn n_impl_JitterValid [] [])) [.t 27, .t 28]⟩,
      ⟨some 9, none, .mv (.t 29)⟩])
    (.seq (.seq (.ops [⟨some 30, none, .mv (.t 9)⟩,
      ⟨some 31, none, .mv (.t 6)⟩,
      ⟨some 32, none, .beq true (.t 30) (.t 31)⟩])
    (.cond (.t 32) (.seq (.ops [⟨some 4, none, .mv (.k (.b false))⟩])
    (.ret))
    (.skip)))
    (.seq (.seq (.ops [⟨some 33, none, .mv (.t 7)⟩,
      ⟨some 34, none, .mv (.t 0)⟩,
      ⟨some 35, none, .call (.k (.fn n_laws_toTaskS [] [])) [.t 34]⟩,
      ⟨some 36, none, .call (.k (.fn n_laws_eqTaskS [] [])) [.t 33, .t 35]⟩,
      ⟨some 37, none, .not (.t 36)⟩])
    (.cond (.t 37) (.seq (.ops [⟨some 4, none, .mv (.k (.b false))⟩])
    (.ret))
    (.skip)))
    (.seq (.seq (.ops [⟨some 38, none, .mv (.t 8)⟩,
      ⟨some 39, none, .mv (.t 1)⟩,
      ⟨some 40, none, .call (.k (.fn n_laws_toIntS [] [])) [.t 39]⟩,
      ⟨some 41, none, .call (.k (.fn n_laws_eqIntS [] [])) [.t 38, .t 40]⟩,
      ⟨some 42, none, .not (.t 41)⟩])
    (.cond (.t 42) (.seq (.ops [⟨some 4, none, .mv (.k (.b false))⟩])
    (.ret))
    (.skip)))
    (.seq (.ops [⟨some 4, none, .mv (.k (.b true))⟩])
    (.ret)))))))))))))
theorem k_laws_FnExactJitterValid : chkF Try.prog Try.f3 43 c_laws_FnExactJitterValid [.t 4] = true := by kernel_rfl
theorem call_laws_FnExactJitterValid {args : List AV} {σ : List AB} {K : AV → List AB → Prop} (hn : args.length ≤ 43) (hw : wpC Try.prog σ.length 43 c_laws_FnExactJitterValid (retP σ.length [.t 4] K) ⟨initT 0 args, σ⟩) : CallWp Try.prog n_laws_FnExactJitterValid args σ K := call_fn mixed Try.func3 k_laws_FnExactJitterValid hn hw

-- loop.example/deadlinescheduler/laws.toTask
def c_laws_toTask : LC := .seq (.ops [⟨some 1, none, .box ty_laws_Task (.t 0)⟩,
      ⟨some 2, none, .alloc ty_impl_Task [.i .i64 0, .i .i64 0, .i .i64 0]⟩])
    (.seq (.ops [⟨some 3, none, .alloc ty_impl_Task [.i .i64 0, .i .i64 0, .i .i64 0]⟩])
    (.seq (.ops [⟨some 4, none, .fa 0 (.t 1)⟩,
      ⟨some 5, none, .ld (.t 4)⟩,
      ⟨some 6, none, .fa 0 (.t 3)⟩,
      ⟨none, none, .st 1 (.t 6) (.t 5)⟩])
    (.seq (.ops [⟨some 7, none, .fa 1 (.t 1)⟩,
      ⟨some 8, none, .ld (.t 7)⟩,
      ⟨some 9, none, .fa 1 (.t 3)⟩,
      ⟨none, none, .st 1 (.t 9) (.t 8)⟩])
    (.seq (.ops [⟨some 10, none, .fa 2 (.t 1)⟩,
      ⟨some 11, none, .ld (.t 10)⟩,
      ⟨some 12, none, .fa 2 (.t 3)⟩,
      ⟨none, none, .st 1 (.t 12) (.t 11)⟩])
    (.seq (.ops [⟨some 13, none, .ldn 3 (.t 3)⟩,
      ⟨none, none, .st 3 (.t 2) (.t 13)⟩])
    (.ret))))))
theorem k_laws_toTask : chkF Try.prog Try.f36 14 c_laws_toTask [.c 2 (some 3)] = true := by kernel_rfl
theorem call_laws_toTask {args : List AV} {σ : List AB} {K : AV → List AB → Prop} (hn : args.length ≤ 14) (hw : wpC Try.prog σ.length 14 c_laws_toTask (retP σ.length [.c 2 (some 3)] K) ⟨initT 0 args, σ⟩) : CallWp Try.prog n_laws_toTask args σ K := call_fn mixed Try.func36 k_laws_toTask hn hw

-- loop.example/deadlinescheduler/laws.toTaskS
-- l0_laws_toTaskS: live at the head: 0 3 4
def l0_laws_toTaskS : LC := .seq (.seq (.ops [⟨some 8, none, .mv (.t 4)⟩,
      ⟨some 9, none, .mv (.t 0)⟩,
      ⟨some 10, none, .len (.t 9)⟩,
      ⟨some 11, none, .bin .lss (.t 8) (.t 10)⟩])
    (.cond (.t 11) (.skip)
    (.exit 0)))
    (.seq (.block 1 (.ops [⟨some 14, none, .mv (.t 3)⟩,
      ⟨some 15, none, .mv (.t 4)⟩,
      ⟨some 16, none, .mv (.t 0)⟩,
      ⟨some 17, none, .mv (.t 4)⟩,
      ⟨some 18, none, .ia 3 (.t 16) (.t 17)⟩,
      ⟨some 19, none, .ldn 3 (.t 18)⟩,
      ⟨some 20, none, .call (.k (.fn n_laws_toTask [] [])) [.t 19]⟩,
      ⟨some 21, none, .ia 3 (.t 14) (.t 15)⟩,
      ⟨none, none, .st 3 (.t 21) (.t 20)⟩]))
    (.ops [⟨some 12, none, .mv (.t 4)⟩,
      ⟨some 13, none, .bin .add (.t 12) (.k (.i .i64 1))⟩,
      ⟨some 4, none, .mv (.t 13)⟩]))
def c_laws_toTaskS : LC := .seq (.ops [⟨some 2, none, .mv (.k (.sn))⟩])
    (.seq (.ops [⟨some 5, none, .mv (.t 0)⟩,
      ⟨some 6, none, .len (.t 5)⟩,
      ⟨some 7, none, .msl ty_impl_Task 24 [.i .i64 0, .i .i64 0, .i .i64 0] (.t 6)⟩,
      ⟨some 3, none, .mv (.t 7)⟩])
    (.seq (.seq (.ops [⟨some 4, none, .mv (.k (.i .i64 0))⟩])
    (.block 0 (.loop l0_laws_toTaskS)))
    (.seq (.ops [⟨some 22, none, .mv (.t 3)⟩,
      ⟨some 2, none, .mv (.t 22)⟩])
    (.ret))))
theorem k_laws_toTaskS : chkF Try.prog Try.f11 23 c_laws_toTaskS [.t 2] = true := by kernel_rfl
theorem call_laws_toTaskS {args : List AV} {σ : List AB} {K : AV → List AB → Prop} (hn : args.length ≤ 23) (hw : wpC Try.prog σ.length 23 c_laws_toTaskS (retP σ.length [.t 2] K) ⟨initT 0 args, σ⟩) : CallWp Try.prog n_laws_toTaskS args σ K := call_fn mixed Try.func11 k_laws_toTaskS hn hw

-- loop.example/deadlinescheduler/laws.toIntS
-- l0_laws_toIntS: live at the head: 0 3 4
def l0_laws_toIntS : LC := .seq (.seq (.ops [⟨some 8, none, .mv (.t 4)⟩,
      ⟨some 9, none, .mv (.t 0)⟩,
      ⟨some 10, none, .len (.t 9)⟩,
      ⟨some 11, none, .bin .lss (.t 8) (.t 10)⟩])
    (.cond (.t 11) (.skip)
    (.exit 0)))
    (.seq (.block 1 (.ops [⟨some 14, none, .mv (.t 3)⟩,
      ⟨some 15, none, .mv (.t 4)⟩,
      ⟨some 16, none, .mv (.t 0)⟩,
      ⟨some 17, none, .mv (.t 4)⟩,
      ⟨some 18, none, .ia 1 (.t 16) (.t 17)⟩,
      ⟨some 19, none, .ld (.t 18)⟩,
      ⟨some 20, none, .ia 1 (.t 14) (.t 15)⟩,
      ⟨none, none, .st 1 (.t 20) (.t 19)⟩]))
    (.ops [⟨some 12, none, .mv (.t 4)⟩,
      ⟨some 13, none, .bin .add (.t 12) (.k (.i .i64 1))⟩,
      ⟨some 4, none, .mv (.t 13)⟩]))
def c_laws_toIntS : LC := .seq (.ops [⟨some 2, none, .mv (.k (.sn))⟩])
    (.seq (.ops [⟨some 5, none, .mv (.t 0)⟩,
      ⟨some 6, none, .len (.t 5)⟩,
      ⟨some 7, none, .msl ty_int 8 [.i .i64 0] (.t 6)⟩,
      ⟨some 3, none, .mv (.t 7)⟩])
    (.seq (.seq (.ops [⟨some 4, none, .mv (.k (.i .i64 0))⟩])
    (.block 0 (.loop l0_laws_toIntS)))
    (.seq (.ops [⟨some 21, none, .mv (.t 3)⟩,
      ⟨some 2, none, .mv (.t 21)⟩])
    (.ret))))
theorem k_laws_toIntS : chkF Try.prog Try.f12 22 c_laws_toIntS [.t 2] = true := by kernel_rfl
theorem call_laws_toIntS {args : List AV} {σ : List AB} {K : AV → List AB → Prop} (hn : args.length ≤ 22) (hw : wpC Try.prog σ.length 22 c_laws_toIntS (retP σ.length [.t 2] K) ⟨initT 0 args, σ⟩) : CallWp Try.prog n_laws_toIntS args σ K := call_fn mixed Try.func12 k_laws_toIntS hn hw

-- loop.example/deadlinescheduler/laws.eqTask
def c_laws_eqTask : LC := .seq (.ops [⟨some 2, none, .box ty_impl_Task (.t 0)⟩,
      ⟨some 3, none, .box ty_impl_Task (.t 1)⟩,
      ⟨some 4, none, .mv (.k (.b false))⟩])
    (.seq (.seq (.ops [⟨some 5, none, .fa 0 (.t 2)⟩,
      ⟨some 6, none, .ld (.t 5)⟩,
      ⟨some 7, none, .fa 0 (.t 3)⟩,
      ⟨some 8, none, .ld (.t 7)⟩,
      ⟨some 9, none, .bin .neq (.t 6) (.t 8)⟩])
    (.cond (.t 9) (.seq (.ops [⟨some 4, none, .mv (.k (.b false))⟩])
    (.ret))
    (.skip)))
    (.seq (.seq (.ops [⟨some 10, none, .fa 1 (.t 2)⟩,
      ⟨some 11, none, .ld (.t 10)⟩,
      ⟨some 12, none, .fa 1 (.t 3)⟩,
      ⟨some 13, none, .ld (.t 12)⟩,
      ⟨some 14, none, .bin .neq (.t 11) (.t 13)⟩])
    (.cond (.t 14) (.seq (.ops [⟨some 4, none, .mv (.k (.b false))⟩])
    (.ret))
    (.skip)))
    (.seq (.seq (.ops [⟨some 15, none, .fa 2 (.t 2)⟩,
      ⟨some 16, none, .ld (.t 15)⟩,
      ⟨some 17, none, .fa 2 (.t 3)⟩,
      ⟨some 18, none, .ld (.t 17)⟩,
      ⟨some 19, none, .bin .neq (.t 16) (.t 18)⟩])
    (.cond (.t 19) (.seq (.ops [⟨some 4, none, .mv (.k (.b false))⟩])
    (.ret))
    (.skip)))
    (.seq (.ops [⟨some 4, none, .mv (.k (.b true))⟩])
    (.ret)))))
theorem k_laws_eqTask : chkF Try.prog Try.f39 20 c_laws_eqTask [.t 4] = true := by kernel_rfl
theorem call_laws_eqTask {args : List AV} {σ : List AB} {K : AV → List AB → Prop} (hn : args.length ≤ 20) (hw : wpC Try.prog σ.length 20 c_laws_eqTask (retP σ.length [.t 4] K) ⟨initT 0 args, σ⟩) : CallWp Try.prog n_laws_eqTask args σ K := call_fn mixed Try.func39 k_laws_eqTask hn hw

-- loop.example/deadlinescheduler/laws.eqTaskS
-- region 6 draws, 10 of 10 first
-- l0_laws_eqTaskS: live at the head: 0 1 5
def l0_laws_eqTaskS : LC := .seq (.seq (.ops [⟨some 11, none, .mv (.t 5)⟩,
      ⟨some 12, none, .mv (.t 0)⟩,
      ⟨some 13, none, .len (.t 12)⟩,
      ⟨some 14, none, .bin .lss (.t 11) (.t 13)⟩])
    (.cond (.t 14) (.skip)
    (.exit 0)))
    (.seq (.block 1 (.seq (.draw 10 [⟨some 17, none, .mv (.t 0)⟩,
      ⟨some 18, none, .mv (.t 5)⟩,
      ⟨some 19, none, .ia 3 (.t 17) (.t 18)⟩,
      ⟨some 20, none, .ldn 3 (.t 19)⟩,
      ⟨some 21, none, .mv (.t 1)⟩,
      ⟨some 22, none, .mv (.t 5)⟩,
      ⟨some 23, none, .ia 3 (.t 21) (.t 22)⟩,
      ⟨some 24, none, .ldn 3 (.t 23)⟩,
      ⟨some 25, none, .call (.k (.fn n_laws_eqTask [] [])) [.t 20, .t 24]⟩,
      ⟨some 26, none, .not (.t 25)⟩])
    (.cond (.t 26) (.seq (.ops [⟨some 4, none, .mv (.k (.b false))⟩])
    (.ret))
    (.skip))))
    (.ops [⟨some 15, none, .mv (.t 5)⟩,
      ⟨some 16, none, .bin .add (.t 15) (.k (.i .i64 1))⟩,
      ⟨some 5, none, .mv (.t 16)⟩]))
def c_laws_eqTaskS : LC := .seq (.ops [⟨some 4, none, .mv (.k (.b false))⟩])
    (.seq (.seq (.ops [⟨some 6, none, .mv (.t 0)⟩,
      ⟨some 7, none, .len (.t 6)⟩,
      ⟨some 8, none, .mv (.t 1)⟩,
      ⟨some 9, none, .len (.t 8)⟩,
      ⟨some 10, none, .bin .neq (.t 7) (.t 9)⟩])
    (.cond (.t 10) (.seq (.ops [⟨some 4, none, .mv (.k (.b false))⟩])
    (.ret))
    (.skip)))
    (.seq (.seq (.ops [⟨some 5, none, .mv (.k (.i .i64 0))⟩])
    (.block 0 (.loop l0_laws_eqTaskS)))
    (.seq (.ops [⟨some 4, none, .mv (.k (.b true))⟩])
    (.ret))))
theorem k_laws_eqTaskS : chkF Try.prog Try.f14 27 c_laws_eqTaskS [.t 4] = true := by kernel_rfl
theorem call_laws_eqTaskS {args : List AV} {σ : List AB} {K : AV → List AB → Prop} (hn : args.length ≤ 27) (hw : wpC Try.prog σ.length 27 c_laws_eqTaskS (retP σ.length [.t 4] K) ⟨initT 0 args, σ⟩) : CallWp Try.prog n_laws_eqTaskS args σ K := call_fn mixed Try.func14 k_laws_eqTaskS hn hw

-- loop.example/deadlinescheduler/laws.eqIntS
-- region 6 draws, 9 of 9 first
-- l0_laws_eqIntS: live at the head: 0 1 5
def l0_laws_eqIntS : LC := .seq (.seq (.ops [⟨some 11, none, .mv (.t 5)⟩,
      ⟨some 12, none, .mv (.t 0)⟩,
      ⟨some 13, none, .len (.t 12)⟩,
      ⟨some 14, none, .bin .lss (.t 11) (.t 13)⟩])
    (.cond (.t 14) (.skip)
    (.exit 0)))
    (.seq (.block 1 (.seq (.draw 9 [⟨some 17, none, .mv (.t 0)⟩,
      ⟨some 18, none, .mv (.t 5)⟩,
      ⟨some 19, none, .ia 1 (.t 17) (.t 18)⟩,
      ⟨some 20, none, .ld (.t 19)⟩,
      ⟨some 21, none, .mv (.t 1)⟩,
      ⟨some 22, none, .mv (.t 5)⟩,
      ⟨some 23, none, .ia 1 (.t 21) (.t 22)⟩,
      ⟨some 24, none, .ld (.t 23)⟩,
      ⟨some 25, none, .bin .neq (.t 20) (.t 24)⟩])
    (.cond (.t 25) (.seq (.ops [⟨some 4, none, .mv (.k (.b false))⟩])
    (.ret))
    (.skip))))
    (.ops [⟨some 15, none, .mv (.t 5)⟩,
      ⟨some 16, none, .bin .add (.t 15) (.k (.i .i64 1))⟩,
      ⟨some 5, none, .mv (.t 16)⟩]))
def c_laws_eqIntS : LC := .seq (.ops [⟨some 4, none, .mv (.k (.b false))⟩])
    (.seq (.seq (.ops [⟨some 6, none, .mv (.t 0)⟩,
      ⟨some 7, none, .len (.t 6)⟩,
      ⟨some 8, none, .mv (.t 1)⟩,
      ⟨some 9, none, .len (.t 8)⟩,
      ⟨some 10, none, .bin .neq (.t 7) (.t 9)⟩])
    (.cond (.t 10) (.seq (.ops [⟨some 4, none, .mv (.k (.b false))⟩])
    (.ret))
    (.skip)))
    (.seq (.seq (.ops [⟨some 5, none, .mv (.k (.i .i64 0))⟩])
    (.block 0 (.loop l0_laws_eqIntS)))
    (.seq (.ops [⟨some 4, none, .mv (.k (.b true))⟩])
    (.ret))))
theorem k_laws_eqIntS : chkF Try.prog Try.f15 26 c_laws_eqIntS [.t 4] = true := by kernel_rfl
theorem call_laws_eqIntS {args : List AV} {σ : List AB} {K : AV → List AB → Prop} (hn : args.length ≤ 26) (hw : wpC Try.prog σ.length 26 c_laws_eqIntS (retP σ.length [.t 4] K) ⟨initT 0 args, σ⟩) : CallWp Try.prog n_laws_eqIntS args σ K := call_fn mixed Try.func15 k_laws_eqIntS hn hw

-- loop.example/deadlinescheduler/laws.szTaskS
def c_laws_szTaskS : LC := .seq (.ops [⟨some 4, none, .mv (.k (.i .i64 0))⟩])
    (.seq (.ops [⟨some 5, none, .mv (.t 1)⟩,
      ⟨some 6, none, .mv (.t 0)⟩,
      ⟨some 7, none, .len (.t 6)⟩,
      ⟨some 8, none, .bin .sub (.t 5) (.t 7)⟩,
      ⟨some 1, none, .mv (.t 8)⟩])
    (.seq (.seq (.ops [⟨some 9, none, .mv (.t 1)⟩,
      ⟨some 10, none, .bin .lss (.t 9) (.k (.i .i64 0))⟩])
    (.cond (.t 10) (.seq (.ops [⟨some 4, none, .mv (.k (.i .i64 (-1)))⟩])
    (.ret))
    (.skip)))
    (.seq (.ops [⟨some 11, none, .mv (.t 1)⟩,
      ⟨some 4, none, .mv (.t 11)⟩])
    (.ret))))
theorem k_laws_szTaskS : chkF Try.prog Try.f9 12 c_laws_szTaskS [.t 4] = true := by kernel_rfl
theorem call_laws_szTaskS {args : List AV} {σ : List AB} {K : AV → List AB → Prop} (hn : args.length ≤ 12) (hw : wpC Try.prog σ.length 12 c_laws_szTaskS (retP σ.length [.t 4] K) ⟨initT 0 args, σ⟩) : CallWp Try.prog n_laws_szTaskS args σ K := call_fn mixed Try.func9 k_laws_szTaskS hn hw

end Go.Proofs.Ytklidlannicomaa
