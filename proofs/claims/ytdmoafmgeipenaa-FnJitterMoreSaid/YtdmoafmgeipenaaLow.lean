/- Lowered code of Go functions, printed by a program of this session (lower.py), and that it is the loaded code: checked by the kernel. -/
import Derived.Test.YtdmoafmgeipenaaProg
import Derived.Test.YtdmoafmgeipenaaLowB
import Derived.KernelRfl
namespace Go.Proofs.Ytdmoafmgeipenaa
open Go.Abs
set_option maxRecDepth 100000


-- slices.ContainsFunc[[]loop.example/deadlinescheduler/impl.Job,loop.example/deadlinescheduler/impl.Job]
def c_slices_ContainsFunc_impl_Job : LC := .seq (.ops [⟨some 4, none, .mv (.k (.b false))⟩])
    (.seq (.ops [⟨some 5, none, .mv (.t 0)⟩,
      ⟨some 6, none, .mv (.t 1)⟩,
      ⟨some 7, none, .call (.k (.fn n_slices_IndexFunc_impl_Job [] [])) [.t 5, .t 6]⟩,
      ⟨some 8, none, .bin .geq (.t 7) (.k (.i .i64 0))⟩,
      ⟨some 4, none, .mv (.t 8)⟩])
    (.ret))
theorem k_slices_ContainsFunc_impl_Job : chkF Try.prog Try.f124 9 c_slices_ContainsFunc_impl_Job [.t 4] = true := by kernel_rfl
theorem call_slices_ContainsFunc_impl_Job {args : List AV} {σ : List AB} {K : AV → List AB → Prop} (hn : args.length ≤ 9) (hw : wpC Try.prog σ.length 9 c_slices_ContainsFunc_impl_Job (retP σ.length [.t 4] K) ⟨initT 0 args, σ⟩) : CallWp Try.prog n_slices_ContainsFunc_impl_Job args σ K := call_fn mixed Try.func124 k_slices_ContainsFunc_impl_Job hn hw
theorem callC_slices_ContainsFunc_impl_Job {args : List AV} {σ : List AB} {K : AV → List AB → Prop} (hn : args.length ≤ 9) (hw : Closed σ → args.all (below1 σ.length) = true → wpC Try.prog σ.length 9 c_slices_ContainsFunc_impl_Job (retP σ.length [.t 4] K) ⟨initT 0 args, σ⟩) : CallWp Try.prog n_slices_ContainsFunc_impl_Job args σ K := call_fnC mixed Try.func124 k_slices_ContainsFunc_impl_Job hn hw

-- loop.example/deadlinescheduler/impl.JobsLegal$3
-- region 1 draws, 12 of 13 first
def c_impl_JobsLegal_3 : LC := .seq (.ops [⟨some 2, none, .box ty_impl_Job (.t 0)⟩,
      ⟨some 3, none, .mv (.k (.b false))⟩])
    (.seq (.draw 12 [⟨some 4, none, .fa 2 (.t 2)⟩,
      ⟨some 5, none, .ld (.t 4)⟩,
      ⟨some 6, none, .fa 1 (.t 2)⟩,
      ⟨some 7, none, .ld (.t 6)⟩,
      ⟨some 8, none, .ld (.t 1)⟩,
      ⟨some 9, none, .fa 0 (.t 2)⟩,
      ⟨some 10, none, .ld (.t 9)⟩,
      ⟨some 11, none, .ia 3 (.t 8) (.t 10)⟩,
      ⟨some 12, none, .fa 1 (.t 11)⟩,
      ⟨some 13, none, .ld (.t 12)⟩,
      ⟨some 14, none, .bin .add (.t 7) (.t 13)⟩,
      ⟨some 15, none, .bin .neq (.t 5) (.t 14)⟩,
      ⟨some 3, none, .mv (.t 15)⟩])
    (.ret))
theorem k_impl_JobsLegal_3 : chkF Try.prog Try.f125 16 c_impl_JobsLegal_3 [.t 3] = true := by kernel_rfl
theorem call_impl_JobsLegal_3 {args : List AV} {σ : List AB} {K : AV → List AB → Prop} (hn : args.length ≤ 16) (hw : wpC Try.prog σ.length 16 c_impl_JobsLegal_3 (retP σ.length [.t 3] K) ⟨initT 0 args, σ⟩) : CallWp Try.prog n_impl_JobsLegal_3 args σ K := call_fn mixed Try.func125 k_impl_JobsLegal_3 hn hw
theorem callC_impl_JobsLegal_3 {args : List AV} {σ : List AB} {K : AV → List AB → Prop} (hn : args.length ≤ 16) (hw : Closed σ → args.all (below1 σ.length) = true → wpC Try.prog σ.length 16 c_impl_JobsLegal_3 (retP σ.length [.t 3] K) ⟨initT 0 args, σ⟩) : CallWp Try.prog n_impl_JobsLegal_3 args σ K := call_fnC mixed Try.func125 k_impl_JobsLegal_3 hn hw

-- loop.example/deadlinescheduler/impl.pause$1
def c_impl_pause_1 : LC := .seq (.ops [⟨some 4, none, .mv (.k (.b false))⟩])
    (.seq (.ops [⟨some 5, none, .mv (.t 0)⟩,
      ⟨some 6, none, .ld (.t 1)⟩,
      ⟨some 7, none, .bin .geq (.t 5) (.t 6)⟩,
      ⟨some 8, none, .mv (.t 7)⟩,
      ⟨some 9, (some (8, true)), .mv (.t 0)⟩,
      ⟨some 10, (some (8, true)), .ld (.t 1)⟩,
      ⟨some 11, (some (8, true)), .ld (.t 2)⟩,
      ⟨some 12, (some (8, true)), .bin .add (.t 10) (.t 11)⟩,
      ⟨some 13, (some (8, true)), .bin .lss (.t 9) (.t 12)⟩,
      ⟨some 14, none, .pick (.t 8) (.t 13) (.k (.b false))⟩,
      ⟨some 4, none, .mv (.t 14)⟩])
    (.ret))
theorem k_impl_pause_1 : chkF Try.prog Try.f126 15 c_impl_pause_1 [.t 4] = true := by kernel_rfl
theorem call_impl_pause_1 {args : List AV} {σ : List AB} {K : AV → List AB → Prop} (hn : args.length ≤ 15) (hw : wpC Try.prog σ.length 15 c_impl_pause_1 (retP σ.length [.t 4] K) ⟨initT 0 args, σ⟩) : CallWp Try.prog n_impl_pause_1 args σ K := call_fn mixed Try.func126 k_impl_pause_1 hn hw
theorem callC_impl_pause_1 {args : List AV} {σ : List AB} {K : AV → List AB → Prop} (hn : args.length ≤ 15) (hw : Closed σ → args.all (below1 σ.length) = true → wpC Try.prog σ.length 15 c_impl_pause_1 (retP σ.length [.t 4] K) ⟨initT 0 args, σ⟩) : CallWp Try.prog n_impl_pause_1 args σ K := call_fnC mixed Try.func126 k_impl_pause_1 hn hw

-- (*loop.example/deadlinescheduler/impl.machine).deadline
def c_impl_machine_deadline : LC := .seq (.ops [⟨some 4, none, .mv (.k (.i .i64 0))⟩])
    (.seq (.ops [⟨some 5, none, .mv (.t 0)⟩,
      ⟨some 6, none, .nilc (.t 5)⟩,
      ⟨some 7, none, .fa 0 (.t 6)⟩,
      ⟨some 8, none, .ld (.t 7)⟩,
      ⟨some 9, none, .mv (.t 1)⟩,
      ⟨some 10, none, .ia 4 (.t 8) (.t 9)⟩,
      ⟨some 11, none, .fa 2 (.t 10)⟩,
      ⟨some 12, none, .ld (.t 11)⟩,
      ⟨some 4, none, .mv (.t 12)⟩])
    (.ret))
theorem k_impl_machine_deadline : chkF Try.prog Try.f127 13 c_impl_machine_deadline [.t 4] = true := by kernel_rfl
theorem call_impl_machine_deadline {args : List AV} {σ : List AB} {K : AV → List AB → Prop} (hn : args.length ≤ 13) (hw : wpC Try.prog σ.length 13 c_impl_machine_deadline (retP σ.length [.t 4] K) ⟨initT 0 args, σ⟩) : CallWp Try.prog n_impl_machine_deadline args σ K := call_fn mixed Try.func127 k_impl_machine_deadline hn hw
theorem callC_impl_machine_deadline {args : List AV} {σ : List AB} {K : AV → List AB → Prop} (hn : args.length ≤ 13) (hw : Closed σ → args.all (below1 σ.length) = true → wpC Try.prog σ.length 13 c_impl_machine_deadline (retP σ.length [.t 4] K) ⟨initT 0 args, σ⟩) : CallWp Try.prog n_impl_machine_deadline args σ K := call_fnC mixed Try.func127 k_impl_machine_deadline hn hw

-- loop.example/deadlinescheduler/impl.paused$1
-- region 1 draws, 6 of 6 first
def c_impl_paused_1 : LC := .seq (.ops [⟨some 3, none, .mv (.k (.i .i64 0))⟩])
    (.seq (.seq (.draw 6 [⟨some 4, none, .ld (.t 1)⟩,
      ⟨some 5, none, .mv (.t 0)⟩,
      ⟨some 6, none, .nilc (.t 5)⟩,
      ⟨some 7, none, .fa 2 (.t 6)⟩,
      ⟨some 8, none, .ld (.t 7)⟩,
      ⟨some 9, none, .call (.t 4) [.t 8]⟩])
    (.cond (.t 9) (.seq (.ops [⟨some 3, none, .mv (.k (.i .i64 (-1)))⟩])
    (.ret))
    (.skip)))
    (.seq (.ops [⟨some 10, none, .mv (.t 0)⟩,
      ⟨some 11, none, .call (.k (.fn n_impl_edf [] [])) [.t 10]⟩,
      ⟨some 3, none, .mv (.t 11)⟩])
    (.ret)))
theorem k_impl_paused_1 : chkF Try.prog Try.f128 12 c_impl_paused_1 [.t 3] = true := by kernel_rfl
theorem call_impl_paused_1 {args : List AV} {σ : List AB} {K : AV → List AB → Prop} (hn : args.length ≤ 12) (hw : wpC Try.prog σ.length 12 c_impl_paused_1 (retP σ.length [.t 3] K) ⟨initT 0 args, σ⟩) : CallWp Try.prog n_impl_paused_1 args σ K := call_fn mixed Try.func128 k_impl_paused_1 hn hw
theorem callC_impl_paused_1 {args : List AV} {σ : List AB} {K : AV → List AB → Prop} (hn : args.length ≤ 12) (hw : Closed σ → args.all (below1 σ.length) = true → wpC Try.prog σ.length 12 c_impl_paused_1 (retP σ.length [.t 3] K) ⟨initT 0 args, σ⟩) : CallWp Try.prog n_impl_paused_1 args σ K := call_fnC mixed Try.func128 k_impl_paused_1 hn hw

-- loop.example/deadlinescheduler/impl.FirstOverload
-- l0_impl_FirstOverload: live at the head: 0 3
def l0_impl_FirstOverload : LC := .seq (.seq (.ops [⟨some 7, none, .mv (.t 3)⟩,
      ⟨some 8, none, .mv (.t 0)⟩,
      ⟨some 9, none, .call (.k (.fn n_impl_hyper [] [])) [.t 8]⟩,
      ⟨some 10, none, .bin .leq (.t 7) (.t 9)⟩])
    (.cond (.t 10) (.skip)
    (.exit 0)))
    (.seq (.block 1 (.seq (.ops [⟨some 13, none, .mv (.t 0)⟩,
      ⟨some 14, none, .mv (.t 3)⟩,
      ⟨some 15, none, .call (.k (.fn n_impl_demand [] [])) [.t 13, .t 14]⟩,
      ⟨some 16, none, .mv (.t 3)⟩,
      ⟨some 17, none, .bin .gtr (.t 15) (.t 16)⟩])
    (.cond (.t 17) (.seq (.ops [⟨some 18, none, .mv (.t 3)⟩,
      ⟨some 2, none, .mv (.t 18)⟩])
    (.ret))
    (.skip))))
    (.ops [⟨some 11, none, .mv (.t 3)⟩,
      ⟨some 12, none, .bin .add (.t 11) (.k (.i .i64 1))⟩,
      ⟨some 3, none, .mv (.t 12)⟩]))
def c_impl_FirstOverload : LC := .seq (.ops [⟨some 2, none, .mv (.k (.i .i64 0))⟩])
    (.seq (.seq (.ops [⟨some 4, none, .mv (.t 0)⟩,
      ⟨some 5, none, .call (.k (.fn n_impl_SetValid [] [])) [.t 4]⟩,
      ⟨some 6, none, .not (.t 5)⟩])
    (.cond (.t 6) (.seq (.ops [⟨some 2, none, .mv (.k (.i .i64 (-1)))⟩])
    (.ret))
    (.skip)))
    (.seq (.seq (.ops [⟨some 3, none, .mv (.k (.i .i64 1))⟩])
    (.block 0 (.loop l0_impl_FirstOverload)))
    (.seq (.ops [⟨some 2, none, .mv (.k (.i .i64 (-1)))⟩])
    (.ret))))
theorem k_impl_FirstOverload : chkF Try.prog Try.f129 19 c_impl_FirstOverload [.t 2] = true := by kernel_rfl
theorem call_impl_FirstOverload {args : List AV} {σ : List AB} {K : AV → List AB → Prop} (hn : args.length ≤ 19) (hw : wpC Try.prog σ.length 19 c_impl_FirstOverload (retP σ.length [.t 2] K) ⟨initT 0 args, σ⟩) : CallWp Try.prog n_impl_FirstOverload args σ K := call_fn mixed Try.func129 k_impl_FirstOverload hn hw
theorem callC_impl_FirstOverload {args : List AV} {σ : List AB} {K : AV → List AB → Prop} (hn : args.length ≤ 19) (hw : Closed σ → args.all (below1 σ.length) = true → wpC Try.prog σ.length 19 c_impl_FirstOverload (retP σ.length [.t 2] K) ⟨initT 0 args, σ⟩) : CallWp Try.prog n_impl_FirstOverload args σ K := call_fnC mixed Try.func129 k_impl_FirstOverload hn hw

-- slices.Repeat[[]int,int]
-- region 9: a plan with 1 orders
-- l0_slices_Repeat_int: live at the head: 7 8
def l0_slices_Repeat_int : LC := .seq (.seq (.ops [⟨some 34, none, .mv (.t 8)⟩,
      ⟨some 35, none, .mv (.t 7)⟩,
      ⟨some 36, none, .len (.t 35)⟩,
      ⟨some 37, none, .bin .lss (.t 34) (.t 36)⟩])
    (.cond (.t 37) (.skip)
    (.exit 0)))
    (.block 1 (.plan [0, 1, 2, 3, 4, 5, 6] [⟨some 38, none, .mv (.t 8)⟩,
      ⟨some 39, none, .mv (.t 7)⟩,
      ⟨some 40, none, .mv (.t 8)⟩,
      ⟨some 41, none, .slc 1 (.t 39) (some (.t 40)) none none⟩,
      ⟨some 42, none, .mv (.t 7)⟩,
      ⟨some 43, none, .mv (.t 8)⟩,
      ⟨some 44, none, .slc 1 (.t 42) none (some (.t 43)) none⟩]
      (.one 7 ⟨some 45, none, .copy (.t 41) (.t 44)⟩ [] [8]
        [⟨some 46, none, .bin .add (.t 38) (.t 45)⟩]
      (.one 9 ⟨some 8, none, .mv (.t 46)⟩ [] []
        []
      .fin))))
def c_slices_Repeat_int : LC := .seq (.ops [⟨some 4, none, .mv (.k (.sn))⟩])
    (.seq (.seq (.ops [⟨some 9, none, .mv (.t 1)⟩,
      ⟨some 10, none, .bin .lss (.t 9) (.k (.i .i64 0))⟩])
    (.cond (.t 10) (.ops [⟨some 11, none, .die⟩,
      ⟨none, none, .die⟩])
    (.skip)))
    (.seq (.ops [⟨some 13, none, .mv (.t 0)⟩,
      ⟨some 14, none, .len (.t 13)⟩,
      ⟨some 15, none, .conv .u64 (.t 14)⟩,
      ⟨some 16, none, .mv (.t 1)⟩,
      ⟨some 17, none, .conv .u64 (.t 16)⟩,
      ⟨some 18, none, .call (.k (.fn n_math_bits_Mul [] [])) [.t 15, .t 17]⟩,
      ⟨some 12, none, .mv (.t 18)⟩,
      ⟨some 19, none, .ext 0 (.t 12)⟩,
      ⟨some 20, none, .ext 1 (.t 12)⟩,
      ⟨some 5, none, .mv (.t 19)⟩,
      ⟨some 6, none, .mv (.t 20)⟩])
    (.seq (.seq (.ops [⟨some 21, none, .mv (.t 5)⟩,
      ⟨some 22, none, .bin .gtr (.t 21) (.k (.i .u64 0))⟩,
      ⟨some 23, none, .mv (.t 22)⟩,
      ⟨some 24, (some (23, false)), .mv (.t 6)⟩,
      ⟨some 25, (some (23, false)), .bin .gtr (.t 24) (.k (.i .u64 9223372036854775807))⟩,
      ⟨some 26, none, .pick (.t 23) (.k (.b true)) (.t 25)⟩])
    (.cond (.t 26) (.ops [⟨some 27, none, .die⟩,
      ⟨none, none, .die⟩])
    (.skip)))
    (.seq (.ops [⟨some 28, none, .mv (.t 6)⟩,
      ⟨some 29, none, .conv .i64 (.t 28)⟩,
      ⟨some 30, none, .msl ty_int 8 [.i .i64 0] (.t 29)⟩,
      ⟨some 7, none, .mv (.t 30)⟩])
    (.seq (.ops [⟨some 31, none, .mv (.t 7)⟩,
      ⟨some 32, none, .mv (.t 0)⟩,
      ⟨some 33, none, .copy (.t 31) (.t 32)⟩,
      ⟨some 8, none, .mv (.t 33)⟩])
    (.seq (.block 0 (.loop l0_slices_Repeat_int))
    (.seq (.ops [⟨some 47, none, .mv (.t 7)⟩,
      ⟨some 4, none, .mv (.t 47)⟩])
    (.ret))))))))
theorem k_slices_Repeat_int : chkF Try.prog Try.f130 48 c_slices_Repeat_int [.t 4] = true := by kernel_rfl
theorem call_slices_Repeat_int {args : List AV} {σ : List AB} {K : AV → List AB → Prop} (hn : args.length ≤ 48) (hw : wpC Try.prog σ.length 48 c_slices_Repeat_int (retP σ.length [.t 4] K) ⟨initT 0 args, σ⟩) : CallWp Try.prog n_slices_Repeat_int args σ K := call_fn mixed Try.func130 k_slices_Repeat_int hn hw
theorem callC_slices_Repeat_int {args : List AV} {σ : List AB} {K : AV → List AB → Prop} (hn : args.length ≤ 48) (hw : Closed σ → args.all (below1 σ.length) = true → wpC Try.prog σ.length 48 c_slices_Repeat_int (retP σ.length [.t 4] K) ⟨initT 0 args, σ⟩) : CallWp Try.prog n_slices_Repeat_int args σ K := call_fnC mixed Try.func130 k_slices_Repeat_int hn hw

-- (*loop.example/deadlinescheduler/impl.machine).ready
-- region 1 draws, 31 of 32 first
def c_impl_machine_ready : LC := .seq (.ops [⟨some 4, none, .mv (.k (.b false))⟩])
    (.seq (.draw 31 [⟨some 5, none, .mv (.t 0)⟩,
      ⟨some 6, none, .nilc (.t 5)⟩,
      ⟨some 7, none, .fa 0 (.t 6)⟩,
      ⟨some 8, none, .ld (.t 7)⟩,
      ⟨some 9, none, .mv (.t 1)⟩,
      ⟨some 10, none, .ia 4 (.t 8) (.t 9)⟩,
      ⟨some 11, none, .fa 1 (.t 10)⟩,
      ⟨some 12, none, .ld (.t 11)⟩,
      ⟨some 13, none, .mv (.t 0)⟩,
      ⟨some 14, none, .nilc (.t 13)⟩,
      ⟨some 15, none, .fa 2 (.t 14)⟩,
      ⟨some 16, none, .ld (.t 15)⟩,
      ⟨some 17, none, .bin .leq (.t 12) (.t 16)⟩,
      ⟨some 18, none, .mv (.t 17)⟩,
      ⟨some 19, (some (18, true)), .mv (.t 0)⟩,
      ⟨some 20, (some (18, true)), .nilc (.t 19)⟩,
      ⟨some 21, (some (18, true)), .fa 1 (.t 20)⟩,
      ⟨some 22, (some (18, true)), .ld (.t 21)⟩,
      ⟨some 23, (some (18, true)), .mv (.t 1)⟩,
      ⟨some 24, (some (18, true)), .ia 1 (.t 22) (.t 23)⟩,
      ⟨some 25, (some (18, true)), .ld (.t 24)⟩,
      ⟨some 26, (some (18, true)), .mv (.t 0)⟩,
      ⟨some 27, (some (18, true)), .nilc (.t 26)⟩,
      ⟨some 28, (some (18, true)), .fa 0 (.t 27)⟩,
      ⟨some 29, (some (18, true)), .ld (.t 28)⟩,
      ⟨some 30, (some (18, true)), .mv (.t 1)⟩,
      ⟨some 31, (some (18, true)), .ia 4 (.t 29) (.t 30)⟩,
      ⟨some 32, (some (18, true)), .fa 3 (.t 31)⟩,
      ⟨some 33, (some (18, true)), .ld (.t 32)⟩,
      ⟨some 34, (some (18, true)), .bin .lss (.t 25) (.t 33)⟩,
      ⟨some 35, none, .pick (.t 18) (.t 34) (.k (.b false))⟩,
      ⟨some 4, none, .mv (.t 35)⟩])
    (.ret))
theorem k_impl_machine_ready : chkF Try.prog Try.f131 36 c_impl_machine_ready [.t 4] = true := by kernel_rfl
theorem call_impl_machine_ready {args : List AV} {σ : List AB} {K : AV → List AB → Prop} (hn : args.length ≤ 36) (hw : wpC Try.prog σ.length 36 c_impl_machine_ready (retP σ.length [.t 4] K) ⟨initT 0 args, σ⟩) : CallWp Try.prog n_impl_machine_ready args σ K := call_fn mixed Try.func131 k_impl_machine_ready hn hw
theorem callC_impl_machine_ready {args : List AV} {σ : List AB} {K : AV → List AB → Prop} (hn : args.length ≤ 36) (hw : Closed σ → args.all (below1 σ.length) = true → wpC Try.prog σ.length 36 c_impl_machine_ready (retP σ.length [.t 4] K) ⟨initT 0 args, σ⟩) : CallWp Try.prog n_impl_machine_ready args σ K := call_fnC mixed Try.func131 k_impl_machine_ready hn hw

-- loop.example/deadlinescheduler/impl.ceil
def c_impl_ceil : LC := .seq (.ops [⟨some 4, none, .mv (.k (.i .i64 0))⟩])
    (.seq (.ops [⟨some 5, none, .mv (.t 0)⟩,
      ⟨some 6, none, .mv (.t 1)⟩,
      ⟨some 7, none, .bin .add (.t 5) (.t 6)⟩,
      ⟨some 8, none, .bin .sub (.t 7) (.k (.i .i64 1))⟩,
      ⟨some 9, none, .mv (.t 1)⟩,
      ⟨some 10, none, .bin .quo (.t 8) (.t 9)⟩,
      ⟨some 4, none, .mv (.t 10)⟩])
    (.ret))
theorem k_impl_ceil : chkF Try.prog Try.f132 11 c_impl_ceil [.t 4] = true := by kernel_rfl
theorem call_impl_ceil {args : List AV} {σ : List AB} {K : AV → List AB → Prop} (hn : args.length ≤ 11) (hw : wpC Try.prog σ.length 11 c_impl_ceil (retP σ.length [.t 4] K) ⟨initT 0 args, σ⟩) : CallWp Try.prog n_impl_ceil args σ K := call_fn mixed Try.func132 k_impl_ceil hn hw
theorem callC_impl_ceil {args : List AV} {σ : List AB} {K : AV → List AB → Prop} (hn : args.length ≤ 11) (hw : Closed σ → args.all (below1 σ.length) = true → wpC Try.prog σ.length 11 c_impl_ceil (retP σ.length [.t 4] K) ⟨initT 0 args, σ⟩) : CallWp Try.prog n_impl_ceil args σ K := call_fnC mixed Try.func132 k_impl_ceil hn hw

-- slices.IndexFunc[[]loop.example/deadlinescheduler/impl.Task,loop.example/deadlinescheduler/impl.Task]
-- l0_slices_IndexFunc_impl_Task: live at the head: 0 1 7 8
def l0_slices_IndexFunc_impl_Task : LC := .seq (.ops [⟨some 9, none, .bin .lss (.t 8) (.t 7)⟩])
    (.seq (.cond (.t 9) (.skip)
    (.exit 0))
    (.seq (.block 1 (.seq (.ops [⟨some 10, none, .mv (.t 8)⟩,
      ⟨some 5, none, .mv (.t 10)⟩])
    (.seq (.ops [⟨some 11, none, .mv (.t 1)⟩,
      ⟨some 12, none, .mv (.t 0)⟩,
      ⟨some 13, none, .mv (.t 5)⟩,
      ⟨some 14, none, .ia 3 (.t 12) (.t 13)⟩,
      ⟨some 15, none, .ldn 3 (.t 14)⟩,
      ⟨some 16, none, .call (.t 11) [.t 15]⟩])
    (.cond (.t 16) (.seq (.ops [⟨some 17, none, .mv (.t 5)⟩,
      ⟨some 4, none, .mv (.t 17)⟩])
    (.ret))
    (.skip)))))
    (.ops [⟨some 18, none, .bin .add (.t 8) (.k (.i .i64 1))⟩,
      ⟨some 8, none, .mv (.t 18)⟩])))
def c_slices_IndexFunc_impl_Task : LC := .seq (.ops [⟨some 4, none, .mv (.k (.i .i64 0))⟩])
    (.seq (.seq (.ops [⟨some 6, none, .mv (.t 0)⟩,
      ⟨some 7, none, .len (.t 6)⟩,
      ⟨some 8, none, .mv (.k (.i .i64 0))⟩])
    (.block 0 (.loop l0_slices_IndexFunc_impl_Task)))
    (.seq (.ops [⟨some 4, none, .mv (.k (.i .i64 (-1)))⟩])
    (.ret)))
theorem k_slices_IndexFunc_impl_Task : chkF Try.prog Try.f133 19 c_slices_IndexFunc_impl_Task [.t 4] = true := by kernel_rfl
theorem call_slices_IndexFunc_impl_Task {args : List AV} {σ : List AB} {K : AV → List AB → Prop} (hn : args.length ≤ 19) (hw : wpC Try.prog σ.length 19 c_slices_IndexFunc_impl_Task (retP σ.length [.t 4] K) ⟨initT 0 args, σ⟩) : CallWp Try.prog n_slices_IndexFunc_impl_Task args σ K := call_fn mixed Try.func133 k_slices_IndexFunc_impl_Task hn hw
theorem callC_slices_IndexFunc_impl_Task {args : List AV} {σ : List AB} {K : AV → List AB → Prop} (hn : args.length ≤ 19) (hw : Closed σ → args.all (below1 σ.length) = true → wpC Try.prog σ.length 19 c_slices_IndexFunc_impl_Task (retP σ.length [.t 4] K) ⟨initT 0 args, σ⟩) : CallWp Try.prog n_slices_IndexFunc_impl_Task args σ K := call_fnC mixed Try.func133 k_slices_IndexFunc_impl_Task hn hw

-- slices.IndexFunc[[]loop.example/deadlinescheduler/impl.Job,loop.example/deadlinescheduler/impl.Job]
-- l0_slices_IndexFunc_impl_Job: live at the head: 0 1 7 8
def l0_slices_IndexFunc_impl_Job : LC := .seq (.ops [⟨some 9, none, .bin .lss (.t 8) (.t 7)⟩])
    (.seq (.cond (.t 9) (.skip)
    (.exit 0))
    (.seq (.block 1 (.seq (.ops [⟨some 10, none, .mv (.t 8)⟩,
      ⟨some 5, none, .mv (.t 10)⟩])
    (.seq (.ops [⟨some 11, none, .mv (.t 1)⟩,
      ⟨some 12, none, .mv (.t 0)⟩,
      ⟨some 13, none, .mv (.t 5)⟩,
      ⟨some 14, none, .ia 4 (.t 12) (.t 13)⟩,
      ⟨some 15, none, .ldn 4 (.t 14)⟩,
      ⟨some 16, none, .call (.t 11) [.t 15]⟩])
    (.cond (.t 16) (.seq (.ops [⟨some 17, none, .mv (.t 5)⟩,
      ⟨some 4, none, .mv (.t 17)⟩])
    (.ret))
    (.skip)))))
    (.ops [⟨some 18, none, .bin .add (.t 8) (.k (.i .i64 1))⟩,
      ⟨some 8, none, .mv (.t 18)⟩])))
def c_slices_IndexFunc_impl_Job : LC := .seq (.ops [⟨some 4, none, .mv (.k (.i .i64 0))⟩])
    (.seq (.seq (.ops [⟨some 6, none, .mv (.t 0)⟩,
      ⟨some 7, none, .len (.t 6)⟩,
      ⟨some 8, none, .mv (.k (.i .i64 0))⟩])
    (.block 0 (.loop l0_slices_IndexFunc_impl_Job)))
    (.seq (.ops [⟨some 4, none, .mv (.k (.i .i64 (-1)))⟩])
    (.ret)))
theorem k_slices_IndexFunc_impl_Job : chkF Try.prog Try.f134 19 c_slices_IndexFunc_impl_Job [.t 4] = true := by kernel_rfl
theorem call_slices_IndexFunc_impl_Job {args : List AV} {σ : List AB} {K : AV → List AB → Prop} (hn : args.length ≤ 19) (hw : wpC Try.prog σ.length 19 c_slices_IndexFunc_impl_Job (retP σ.length [.t 4] K) ⟨initT 0 args, σ⟩) : CallWp Try.prog n_slices_IndexFunc_impl_Job args σ K := call_fn mixed Try.func134 k_slices_IndexFunc_impl_Job hn hw
theorem callC_slices_IndexFunc_impl_Job {args : List AV} {σ : List AB} {K : AV → List AB → Prop} (hn : args.length ≤ 19) (hw : Closed σ → args.all (below1 σ.length) = true → wpC Try.prog σ.length 19 c_slices_IndexFunc_impl_Job (retP σ.length [.t 4] K) ⟨initT 0 args, σ⟩) : CallWp Try.prog n_slices_IndexFunc_impl_Job args σ K := call_fnC mixed Try.func134 k_slices_IndexFunc_impl_Job hn hw

-- loop.example/deadlinescheduler/impl.hyper
-- l0_impl_hyper: live at the head: 3 6 7 8
def l0_impl_hyper : LC := .seq (.ops [⟨some 9, none, .bin .lss (.t 8) (.t 7)⟩])
    (.seq (.cond (.t 9) (.skip)
    (.exit 0))
    (.seq (.block 1 (.seq (.ops [⟨some 10, none, .ia 3 (.t 6) (.t 8)⟩,
      ⟨some 11, none, .ldn 3 (.t 10)⟩,
      ⟨some 5, none, .alloc ty_impl_Task [.i .i64 0, .i .i64 0, .i .i64 0]⟩,
      ⟨none, none, .st 3 (.t 5) (.t 11)⟩])
    (.ops [⟨some 12, none, .mv (.t 3)⟩,
      ⟨some 13, none, .fa 2 (.t 5)⟩,
      ⟨some 14, none, .ld (.t 13)⟩,
      ⟨some 15, none, .call (.k (.fn n_impl_lcm [] [])) [.t 12, .t 14]⟩,
      ⟨some 3, none, .mv (.t 15)⟩])))
    (.ops [⟨some 16, none, .bin .add (.t 8) (.k (.i .i64 1))⟩,
      ⟨some 8, none, .mv (.t 16)⟩])))
def c_impl_hyper : LC := .seq (.ops [⟨some 2, none, .mv (.k (.i .i64 0))⟩])
    (.seq (.ops [⟨some 3, none, .mv (.k (.i .i64 1))⟩])
    (.seq (.seq (.ops [⟨some 6, none, .mv (.t 0)⟩,
      ⟨some 7, none, .len (.t 6)⟩,
      ⟨some 8, none, .mv (.k (.i .i64 0))⟩])
    (.block 0 (.loop l0_impl_hyper)))
    (.seq (.ops [⟨some 17, none, .mv (.t 3)⟩,
      ⟨some 2, none, .mv (.t 17)⟩])
    (.ret))))
theorem k_impl_hyper : chkF Try.prog Try.f135 18 c_impl_hyper [.t 2] = true := by kernel_rfl
theorem call_impl_hyper {args : List AV} {σ : List AB} {K : AV → List AB → Prop} (hn : args.length ≤ 18) (hw : wpC Try.prog σ.length 18 c_impl_hyper (retP σ.length [.t 2] K) ⟨initT 0 args, σ⟩) : CallWp Try.prog n_impl_hyper args σ K := call_fn mixed Try.func135 k_impl_hyper hn hw
theorem callC_impl_hyper {args : List AV} {σ : List AB} {K : AV → List AB → Prop} (hn : args.length ≤ 18) (hw : Closed σ → args.all (below1 σ.length) = true → wpC Try.prog σ.length 18 c_impl_hyper (retP σ.length [.t 2] K) ⟨initT 0 args, σ⟩) : CallWp Try.prog n_impl_hyper args σ K := call_fnC mixed Try.func135 k_impl_hyper hn hw

-- loop.example/deadlinescheduler/impl.demand
-- region 6 draws, 13 of 14 first
-- l0_impl_demand: live at the head: 1 5 8 9 10
def l0_impl_demand : LC := .seq (.ops [⟨some 11, none, .bin .lss (.t 10) (.t 9)⟩])
    (.seq (.cond (.t 11) (.skip)
    (.exit 0))
    (.seq (.block 1 (.seq (.ops [⟨some 12, none, .ia 3 (.t 8) (.t 10)⟩,
      ⟨some 13, none, .ldn 3 (.t 12)⟩,
      ⟨some 7, none, .alloc ty_impl_Task [.i .i64 0, .i .i64 0, .i .i64 0]⟩,
      ⟨none, none, .st 3 (.t 7) (.t 13)⟩])
    (.seq (.ops [⟨some 14, none, .mv (.t 1)⟩,
      ⟨some 15, none, .fa 1 (.t 7)⟩,
      ⟨some 16, none, .ld (.t 15)⟩,
      ⟨some 17, none, .bin .geq (.t 14) (.t 16)⟩])
    (.cond (.t 17) (.draw 13 [⟨some 18, none, .mv (.t 5)⟩,
      ⟨some 19, none, .mv (.t 1)⟩,
      ⟨some 20, none, .fa 1 (.t 7)⟩,
      ⟨some 21, none, .ld (.t 20)⟩,
      ⟨some 22, none, .bin .sub (.t 19) (.t 21)⟩,
      ⟨some 23, none, .fa 2 (.t 7)⟩,
      ⟨some 24, none, .ld (.t 23)⟩,
      ⟨some 25, none, .bin .quo (.t 22) (.t 24)⟩,
      ⟨some 26, none, .bin .add (.t 25) (.k (.i .i64 1))⟩,
      ⟨some 27, none, .fa 0 (.t 7)⟩,
      ⟨some 28, none, .ld (.t 27)⟩,
      ⟨some 29, none, .bin .mul (.t 26) (.t 28)⟩,
      ⟨some 30, none, .bin .add (.t 18) (.t 29)⟩,
      ⟨some 5, none, .mv (.t 30)⟩])
    (.skip)))))
    (.ops [⟨some 31, none, .bin .add (.t 10) (.k (.i .i64 1))⟩,
      ⟨some 10, none, .mv (.t 31)⟩])))
def c_impl_demand : LC := .seq (.ops [⟨some 4, none, .mv (.k (.i .i64 0))⟩])
    (.seq (.ops [⟨some 5, none, .mv (.k (.i .i64 0))⟩])
    (.seq (.seq (.ops [⟨some 8, none, .mv (.t 0)⟩,
      ⟨some 9, none, .len (.t 8)⟩,
      ⟨some 10, none, .mv (.k (.i .i64 0))⟩])
    (.block 0 (.loop l0_impl_demand)))
    (.seq (.ops [⟨some 32, none, .mv (.t 5)⟩,
      ⟨some 4, none, .mv (.t 32)⟩])
    (.ret))))
theorem k_impl_demand : chkF Try.prog Try.f136 33 c_impl_demand [.t 4] = true := by kernel_rfl
theorem call_impl_demand {args : List AV} {σ : List AB} {K : AV → List AB → Prop} (hn : args.length ≤ 33) (hw : wpC Try.prog σ.length 33 c_impl_demand (retP σ.length [.t 4] K) ⟨initT 0 args, σ⟩) : CallWp Try.prog n_impl_demand args σ K := call_fn mixed Try.func136 k_impl_demand hn hw
theorem callC_impl_demand {args : List AV} {σ : List AB} {K : AV → List AB → Prop} (hn : args.length ≤ 33) (hw : Closed σ → args.all (below1 σ.length) = true → wpC Try.prog σ.length 33 c_impl_demand (retP σ.length [.t 4] K) ⟨initT 0 args, σ⟩) : CallWp Try.prog n_impl_demand args σ K := call_fnC mixed Try.func136 k_impl_demand hn hw

-- math/bits.Mul
def c_math_bits_Mul : LC := .seq (.ops [⟨some 4, none, .mv (.k (.i .u64 0))⟩,
      ⟨some 5, none, .mv (.k (.i .u64 0))⟩])
    (.seq (.cond (.k (.b false)) (.seq (.ops [⟨some 11, none, .mv (.t 0)⟩,
      ⟨some 12, none, .conv .u32 (.t 11)⟩,
      ⟨some 13, none, .mv (.t 1)⟩,
      ⟨some 14, none, .conv .u32 (.t 13)⟩,
      ⟨some 15, none, .call (.k (.fn n_math_bits_Mul32 [] [])) [.t 12, .t 14]⟩,
      ⟨some 10, none, .mv (.t 15)⟩,
      ⟨some 16, none, .ext 0 (.t 10)⟩,
      ⟨some 17, none, .ext 1 (.t 10)⟩,
      ⟨some 6, none, .mv (.t 16)⟩,
      ⟨some 7, none, .mv (.t 17)⟩])
    (.seq (.ops [⟨some 18, none, .mv (.t 6)⟩,
      ⟨some 19, none, .conv .u64 (.t 18)⟩,
      ⟨some 20, none, .mv (.t 7)⟩,
      ⟨some 21, none, .conv .u64 (.t 20)⟩,
      ⟨some 4, none, .mv (.t 19)⟩,
      ⟨some 5, none, .mv (.t 21)⟩])
    (.ret)))
    (.skip))
    (.seq (.ops [⟨some 23, none, .mv (.t 0)⟩,
      ⟨some 24, none, .mv (.t 1)⟩,
      ⟨some 25, none, .call (.k (.fn n_math_bits_Mul64 [] [])) [.t 23, .t 24]⟩,
      ⟨some 22, none, .mv (.t 25)⟩,
      ⟨some 26, none, .ext 0 (.t 22)⟩,
      ⟨some 27, none, .ext 1 (.t 22)⟩,
      ⟨some 8, none, .mv (.t 26)⟩,
      ⟨some 9, none, .mv (.t 27)⟩])
    (.seq (.ops [⟨some 28, none, .mv (.t 8)⟩,
      ⟨some 29, none, .mv (.t 9)⟩,
      ⟨some 4, none, .mv (.t 28)⟩,
      ⟨some 5, none, .mv (.t 29)⟩])
    (.ret))))
theorem k_math_bits_Mul : chkF Try.prog Try.f137 30 c_math_bits_Mul [.t 4, .t 5] = true := by kernel_rfl
theorem call_math_bits_Mul {args : List AV} {σ : List AB} {K : AV → List AB → Prop} (hn : args.length ≤ 30) (hw : wpC Try.prog σ.length 30 c_math_bits_Mul (retP σ.length [.t 4, .t 5] K) ⟨initT 0 args, σ⟩) : CallWp Try.prog n_math_bits_Mul args σ K := call_fn mixed Try.func137 k_math_bits_Mul hn hw
theorem callC_math_bits_Mul {args : List AV} {σ : List AB} {K : AV → List AB → Prop} (hn : args.length ≤ 30) (hw : Closed σ → args.all (below1 σ.length) = true → wpC Try.prog σ.length 30 c_math_bits_Mul (retP σ.length [.t 4, .t 5] K) ⟨initT 0 args, σ⟩) : CallWp Try.prog n_math_bits_Mul args σ K := call_fnC mixed Try.func137 k_math_bits_Mul hn hw

-- loop.example/deadlinescheduler/impl.lcm
def c_impl_lcm : LC := .seq (.ops [⟨some 4, none, .mv (.k (.i .i64 0))⟩])
    (.seq (.ops [⟨some 5, none, .mv (.t 0)⟩,
      ⟨some 6, none, .mv (.t 0)⟩,
      ⟨some 7, none, .mv (.t 1)⟩,
      ⟨some 8, none, .call (.k (.fn n_impl_gcd [] [])) [.t 6, .t 7]⟩,
      ⟨some 9, none, .bin .quo (.t 5) (.t 8)⟩,
      ⟨some 10, none, .mv (.t 1)⟩,
      ⟨some 11, none, .bin .mul (.t 9) (.t 10)⟩,
      ⟨some 4, none, .mv (.t 11)⟩])
    (.ret))
theorem k_impl_lcm : chkF Try.prog Try.f138 12 c_impl_lcm [.t 4] = true := by kernel_rfl
theorem call_impl_lcm {args : List AV} {σ : List AB} {K : AV → List AB → Prop} (hn : args.length ≤ 12) (hw : wpC Try.prog σ.length 12 c_impl_lcm (retP σ.length [.t 4] K) ⟨initT 0 args, σ⟩) : CallWp Try.prog n_impl_lcm args σ K := call_fn mixed Try.func138 k_impl_lcm hn hw
theorem callC_impl_lcm {args : List AV} {σ : List AB} {K : AV → List AB → Prop} (hn : args.length ≤ 12) (hw : Closed σ → args.all (below1 σ.length) = true → wpC Try.prog σ.length 12 c_impl_lcm (retP σ.length [.t 4] K) ⟨initT 0 args, σ⟩) : CallWp Try.prog n_impl_lcm args σ K := call_fnC mixed Try.func138 k_impl_lcm hn hw

-- math/bits.Mul32
def c_math_bits_Mul32 : LC := .seq (.ops [⟨some 4, none, .mv (.k (.i .u32 0))⟩,
      ⟨some 5, none, .mv (.k (.i .u32 0))⟩])
    (.seq (.ops [⟨some 7, none, .mv (.t 0)⟩,
      ⟨some 8, none, .conv .u64 (.t 7)⟩,
      ⟨some 9, none, .mv (.t 1)⟩,
      ⟨some 10, none, .conv .u64 (.t 9)⟩,
      ⟨some 11, none, .bin .mul (.t 8) (.t 10)⟩,
      ⟨some 6, none, .mv (.t 11)⟩])
    (.seq (.ops [⟨some 12, none, .mv (.t 6)⟩,
      ⟨some 13, none, .shr (.t 12) (.k (.i .u64 32))⟩,
      ⟨some 14, none, .conv .u32 (.t 13)⟩,
      ⟨some 15, none, .mv (.t 6)⟩,
      ⟨some 16, none, .conv .u32 (.t 15)⟩,
      ⟨some 4, none, .mv (.t 14)⟩,
      ⟨some 5, none, .mv (.t 16)⟩])
    (.ret)))
theorem k_math_bits_Mul32 : chkF Try.prog Try.f139 17 c_math_bits_Mul32 [.t 4, .t 5] = true := by kernel_rfl
theorem call_math_bits_Mul32 {args : List AV} {σ : List AB} {K : AV → List AB → Prop} (hn : args.length ≤ 17) (hw : wpC Try.prog σ.length 17 c_math_bits_Mul32 (retP σ.length [.t 4, .t 5] K) ⟨initT 0 args, σ⟩) : CallWp Try.prog n_math_bits_Mul32 args σ K := call_fn mixed Try.func139 k_math_bits_Mul32 hn hw
theorem callC_math_bits_Mul32 {args : List AV} {σ : List AB} {K : AV → List AB → Prop} (hn : args.length ≤ 17) (hw : Closed σ → args.all (below1 σ.length) = true → wpC Try.prog σ.length 17 c_math_bits_Mul32 (retP σ.length [.t 4, .t 5] K) ⟨initT 0 args, σ⟩) : CallWp Try.prog n_math_bits_Mul32 args σ K := call_fnC mixed Try.func139 k_math_bits_Mul32 hn hw

-- math/bits.Mul64
def c_math_bits_Mul64 : LC := .seq (.ops [⟨some 4, none, .mv (.k (.i .u64 0))⟩,
      ⟨some 5, none, .mv (.k (.i .u64 0))⟩])
    (.seq (.ops [⟨some 14, none, .mv (.t 0)⟩,
      ⟨some 15, none, .bin .and (.t 14) (.k (.i .u64 4294967295))⟩,
      ⟨some 6, none, .mv (.t 15)⟩])
    (.seq (.ops [⟨some 16, none, .mv (.t 0)⟩,
      ⟨some 17, none, .shr (.t 16) (.k (.i .u64 32))⟩,
      ⟨some 7, none, .mv (.t 17)⟩])
    (.seq (.ops [⟨some 18, none, .mv (.t 1)⟩,
      ⟨some 19, none, .bin .and (.t 18) (.k (.i .u64 4294967295))⟩,
      ⟨some 8, none, .mv (.t 19)⟩])
    (.seq (.ops [⟨some 20, none, .mv (.t 1)⟩,
      ⟨some 21, none, .shr (.t 20) (.k (.i .u64 32))⟩,
      ⟨some 9, none, .mv (.t 21)⟩])
    (.seq (.ops [⟨some 22, none, .mv (.t 6)⟩,
      ⟨some 23, none, .mv (.t 8)⟩,
      ⟨some 24, none, .bin .mul (.t 22) (.t 23)⟩,
      ⟨some 10, none, .mv (.t 24)⟩])
    (.seq (.ops [⟨some 25, none, .mv (.t 7)⟩,
      ⟨some 26, none, .mv (.t 8)⟩,
      ⟨some 27, none, .bin .mul (.t 25) (.t 26)⟩,
      ⟨some 28, none, .mv (.t 10)⟩,
      ⟨some 29, none, .shr (.t 28) (.k (.i .u64 32))⟩,
      ⟨some 30, none, .bin .add (.t 27) (.t 29)⟩,
      ⟨some 11, none, .mv (.t 30)⟩])
    (.seq (.ops [⟨some 31, none, .mv (.t 11)⟩,
      ⟨some 32, none, .bin .and (.t 31) (.k (.i .u64 4294967295))⟩,
      ⟨some 12, none, .mv (.t 32)⟩])
    (.seq (.ops [⟨some 33, none, .mv (.t 11)⟩,
      ⟨some 34, none, .shr (.t 33) (.k (.i .u64 32))⟩,
      ⟨some 13, none, .mv (.t 34)⟩])
    (.seq (.ops [⟨some 35, none, .mv (.t 12)⟩,
      ⟨some 36, none, .mv (.t 6)⟩,
      ⟨some 37, none, .mv (.t 9)⟩,
      ⟨some 38, none, .bin .mul (.t 36) (.t 37)⟩,
      ⟨some 39, none, .bin .add (.t 35) (.t 38)⟩,
      ⟨some 12, none, .mv (.t 39)⟩])
    (.seq (.ops [⟨some 40, none, .mv (.t 7)⟩,
      ⟨some 41, none, .mv (.t 9)⟩,
      ⟨some 42, none, .bin .mul (.t 40) (.t 41)⟩,
      ⟨some 43, none, .mv (.t 13)⟩,
      ⟨some 44, none, .bin .add (.t 42) (.t 43)⟩,
      ⟨some 45, none, .mv (.t 12)⟩,
      ⟨some 46, none, .shr (.t 45) (.k (.i .u64 32))⟩,
      ⟨some 47, none, .bin .add (.t 44) (.t 46)⟩,
      ⟨some 4, none, .mv (.t 47)⟩])
    (.seq (.ops [⟨some 48, none, .mv (.t 0)⟩,
      ⟨some 49, none, .mv (.t 1)⟩,
      ⟨some 50, none, .bin .mul (.t 48) (.t 49)⟩,
      ⟨some 5, none, .mv (.t 50)⟩])
    (.ret))))))))))))
theorem k_math_bits_Mul64 : chkF Try.prog Try.f140 51 c_math_bits_Mul64 [.t 4, .t 5] = true := by kernel_rfl
theorem call_math_bits_Mul64 {args : List AV} {σ : List AB} {K : AV → List AB → Prop} (hn : args.length ≤ 51) (hw : wpC Try.prog σ.length 51 c_math_bits_Mul64 (retP σ.length [.t 4, .t 5] K) ⟨initT 0 args, σ⟩) : CallWp Try.prog n_math_bits_Mul64 args σ K := call_fn mixed Try.func140 k_math_bits_Mul64 hn hw
theorem callC_math_bits_Mul64 {args : List AV} {σ : List AB} {K : AV → List AB → Prop} (hn : args.length ≤ 51) (hw : Closed σ → args.all (below1 σ.length) = true → wpC Try.prog σ.length 51 c_math_bits_Mul64 (retP σ.length [.t 4, .t 5] K) ⟨initT 0 args, σ⟩) : CallWp Try.prog n_math_bits_Mul64 args σ K := call_fnC mixed Try.func140 k_math_bits_Mul64 hn hw

-- loop.example/deadlinescheduler/impl.gcd
-- region 2: a plan with 1 orders
-- l0_impl_gcd: live at the head: 0 1
def l0_impl_gcd : LC := .seq (.seq (.ops [⟨some 5, none, .mv (.t 1)⟩,
      ⟨some 6, none, .bin .neq (.t 5) (.k (.i .i64 0))⟩])
    (.cond (.t 6) (.skip)
    (.exit 0)))
    (.block 1 (.plan [0, 1, 2, 3] [⟨some 7, none, .mv (.t 1)⟩,
      ⟨some 8, none, .mv (.t 0)⟩,
      ⟨some 9, none, .mv (.t 1)⟩,
      ⟨some 10, none, .bin .rem (.t 8) (.t 9)⟩]
      (.one 4 ⟨some 0, none, .mv (.t 7)⟩ [] []
        []
      (.one 5 ⟨some 1, none, .mv (.t 10)⟩ [] []
        []
      .fin))))
def c_impl_gcd : LC := .seq (.ops [⟨some 4, none, .mv (.k (.i .i64 0))⟩])
    (.seq (.block 0 (.loop l0_impl_gcd))
    (.seq (.ops [⟨some 11, none, .mv (.t 0)⟩,
      ⟨some 4, none, .mv (.t 11)⟩])
    (.ret)))
theorem k_impl_gcd : chkF Try.prog Try.f141 12 c_impl_gcd [.t 4] = true := by kernel_rfl
theorem call_impl_gcd {args : List AV} {σ : List AB} {K : AV → List AB → Prop} (hn : args.length ≤ 12) (hw : wpC Try.prog σ.length 12 c_impl_gcd (retP σ.length [.t 4] K) ⟨initT 0 args, σ⟩) : CallWp Try.prog n_impl_gcd args σ K := call_fn mixed Try.func141 k_impl_gcd hn hw
theorem callC_impl_gcd {args : List AV} {σ : List AB} {K : AV → List AB → Prop} (hn : args.length ≤ 12) (hw : Closed σ → args.all (below1 σ.length) = true → wpC Try.prog σ.length 12 c_impl_gcd (retP σ.length [.t 4] K) ⟨initT 0 args, σ⟩) : CallWp Try.prog n_impl_gcd args σ K := call_fnC mixed Try.func141 k_impl_gcd hn hw

end Go.Proofs.Ytdmoafmgeipenaa
