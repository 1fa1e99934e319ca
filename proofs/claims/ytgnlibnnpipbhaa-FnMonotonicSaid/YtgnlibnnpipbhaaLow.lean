import Derived.Test.YtgnlibnnpipbhaaProg
import Derived.Test.YtgnlibnnpipbhaaLowA
import Derived.KernelRfl
namespace Go.Proofs.Ytgnlibnnpipbhaa
open Go.Abs
set_option maxRecDepth 100000
def c_impl_DeadlineMonotonic_1 : LC := .seq (.ops [⟨some 5, none, .mv (.k (.i .i64 0))⟩])
    (.seq (.draw 11 [⟨some 6, none, .ld (.t 2)⟩,
      ⟨some 7, none, .mv (.t 0)⟩,
      ⟨some 8, none, .ia 3 (.t 6) (.t 7)⟩,
      ⟨some 9, none, .fa 1 (.t 8)⟩,
      ⟨some 10, none, .ld (.t 9)⟩,
      ⟨some 11, none, .ld (.t 2)⟩,
      ⟨some 12, none, .mv (.t 1)⟩,
      ⟨some 13, none, .ia 3 (.t 11) (.t 12)⟩,
      ⟨some 14, none, .fa 1 (.t 13)⟩,
      ⟨some 15, none, .ld (.t 14)⟩,
      ⟨some 16, none, .bin .sub (.t 10) (.t 15)⟩,
      ⟨some 5, none, .mv (.t 16)⟩])
    (.ret))
theorem k_impl_DeadlineMonotonic_1 : chkF Try.prog Try.f68 17 c_impl_DeadlineMonotonic_1 [.t 5] = true := by kernel_rfl
theorem call_impl_DeadlineMonotonic_1 {args : List AV} {σ : List AB} {K : AV → List AB → Prop} (hn : args.length ≤ 17) (hw : wpC Try.prog σ.length 17 c_impl_DeadlineMonotonic_1 (retP σ.length [.t 5] K) ⟨initT 0 args, σ⟩) : CallWp Try.prog n_impl_DeadlineMonotonic_1 args σ K := call_fn mixed Try.func68 k_impl_DeadlineMonotonic_1 hn hw
def c_spec_TaskValid : LC := .seq (.ops [⟨some 1, none, .box ty_impl_Task (.t 0)⟩,
      ⟨some 2, none, .mv (.k (.b false))⟩])
    (.seq (.ops [⟨some 3, none, .fa 0 (.t 1)⟩,
      ⟨some 4, none, .ld (.t 3)⟩,
      ⟨some 5, none, .call (.k (.fn n_spec_l1In [] [])) [.t 4, .k (.i .i64 1), .k (.i .i64 8)]⟩,
      ⟨some 6, none, .mv (.t 5)⟩,
      ⟨some 7, (some (6, true)), .fa 1 (.t 1)⟩,
      ⟨some 8, (some (6, true)), .ld (.t 7)⟩,
      ⟨some 9, (some (6, true)), .fa 0 (.t 1)⟩,
      ⟨some 10, (some (6, true)), .ld (.t 9)⟩,
      ⟨some 11, (some (6, true)), .fa 2 (.t 1)⟩,
      ⟨some 12, (some (6, true)), .ld (.t 11)⟩,
      ⟨some 13, (some (6, true)), .call (.k (.fn n_spec_l1In [] [])) [.t 8, .t 10, .t 12]⟩,
      ⟨some 14, none, .pick (.t 6) (.t 13) (.k (.b false))⟩,
      ⟨some 15, none, .mv (.t 14)⟩,
      ⟨some 16, (some (15, true)), .fa 2 (.t 1)⟩,
      ⟨some 17, (some (15, true)), .ld (.t 16)⟩,
      ⟨some 18, (some (15, true)), .call (.k (.fn n_spec_l1In [] [])) [.t 17, .k (.i .i64 1), .k (.i .i64 12)]⟩,
      ⟨some 19, none, .pick (.t 15) (.t 18) (.k (.b false))⟩,
      ⟨some 2, none, .mv (.t 19)⟩])
    (.ret))
theorem k_spec_TaskValid : chkF Try.prog Try.f77 20 c_spec_TaskValid [.t 2] = true := by kernel_rfl
theorem call_spec_TaskValid {args : List AV} {σ : List AB} {K : AV → List AB → Prop} (hn : args.length ≤ 20) (hw : wpC Try.prog σ.length 20 c_spec_TaskValid (retP σ.length [.t 2] K) ⟨initT 0 args, σ⟩) : CallWp Try.prog n_spec_TaskValid args σ K := call_fn mixed Try.func77 k_spec_TaskValid hn hw
def l0_slices_IndexFunc_int : LC := .seq (.ops [⟨some 9, none, .bin .lss (.t 8) (.t 7)⟩])
    (.seq (.cond (.t 9) (.skip)
    (.exit 0))
    (.seq (.block 1 (.seq (.ops [⟨some 10, none, .mv (.t 8)⟩,
      ⟨some 5, none, .mv (.t 10)⟩])
    (.seq (.ops [⟨some 11, none, .mv (.t 1)⟩,
      ⟨some 12, none, .mv (.t 0)⟩,
      ⟨some 13, none, .mv (.t 5)⟩,
      ⟨some 14, none, .ia 1 (.t 12) (.t 13)⟩,
      ⟨some 15, none, .ld (.t 14)⟩,
      ⟨some 16, none, .call (.t 11) [.t 15]⟩])
    (.cond (.t 16) (.seq (.ops [⟨some 17, none, .mv (.t 5)⟩,
      ⟨some 4, none, .mv (.t 17)⟩])
    (.ret))
    (.skip)))))
    (.ops [⟨some 18, none, .bin .add (.t 8) (.k (.i .i64 1))⟩,
      ⟨some 8, none, .mv (.t 18)⟩])))
def c_slices_IndexFunc_int : LC := .seq (.ops [⟨some 4, none, .mv (.k (.i .i64 0))⟩])
    (.seq (.seq (.ops [⟨some 6, none, .mv (.t 0)⟩,
      ⟨some 7, none, .len (.t 6)⟩,
      ⟨some 8, none, .mv (.k (.i .i64 0))⟩])
    (.block 0 (.loop l0_slices_IndexFunc_int)))
    (.seq (.ops [⟨some 4, none, .mv (.k (.i .i64 (-1)))⟩])
    (.ret)))
theorem k_slices_IndexFunc_int : chkF Try.prog Try.f78 19 c_slices_IndexFunc_int [.t 4] = true := by kernel_rfl
theorem call_slices_IndexFunc_int {args : List AV} {σ : List AB} {K : AV → List AB → Prop} (hn : args.length ≤ 19) (hw : wpC Try.prog σ.length 19 c_slices_IndexFunc_int (retP σ.length [.t 4] K) ⟨initT 0 args, σ⟩) : CallWp Try.prog n_slices_IndexFunc_int args σ K := call_fn mixed Try.func78 k_slices_IndexFunc_int hn hw
def c_impl_AssignPriorities_1 : LC := .seq (.ops [⟨some 3, none, .box ty_int (.t 0)⟩,
      ⟨some 4, none, .mv (.k (.b false))⟩])
    (.seq (.ops [⟨some 6, none, .ld (.t 1)⟩,
      ⟨some 7, none, .call (.k (.fn n_slices_Clone_int [] [])) [.t 6]⟩,
      ⟨some 8, none, .mkf n_impl_AssignPriorities_1_1 [] [.t 3]⟩,
      ⟨some 9, none, .call (.k (.fn n_slices_DeleteFunc_int [] [])) [.t 7, .t 8]⟩,
      ⟨some 5, none, .mv (.t 9)⟩])
    (.seq (.plan [0, 1, 2, 4, 5] [⟨some 10, none, .ld (.t 2)⟩,
      ⟨some 11, none, .ld (.t 2)⟩,
      ⟨some 12, none, .len (.t 11)⟩,
      ⟨some 14, none, .ld (.t 3)⟩,
      ⟨some 15, none, .mv (.t 5)⟩]
      (.one 3 ⟨some 13, none, .msl ty_int 8 [.i .i64 0] (.t 12)⟩ [(10, none, 2), (11, none, 2), (14, none, 3)] []
        []
      (.one 6 ⟨some 16, none, .call (.k (.fn n_impl_response [] [])) [.t 10, .t 13, .t 14, .t 15]⟩ [(11, none, 2)] [7, 8]
        [⟨some 17, none, .bin .geq (.t 16) (.k (.i .i64 0))⟩,
        ⟨some 4, none, .mv (.t 17)⟩]
      .fin)))
    (.ret)))
theorem k_impl_AssignPriorities_1 : chkF Try.prog Try.f79 18 c_impl_AssignPriorities_1 [.t 4] = true := by kernel_rfl
theorem callC_impl_AssignPriorities_1 {args : List AV} {σ : List AB} {K : AV → List AB → Prop} (hn : args.length ≤ 18) (hw : Closed σ → args.all (below1 σ.length) = true → wpC Try.prog σ.length 18 c_impl_AssignPriorities_1 (retP σ.length [.t 4] K) ⟨initT 0 args, σ⟩) : CallWp Try.prog n_impl_AssignPriorities_1 args σ K := call_fnC mixed Try.func79 k_impl_AssignPriorities_1 hn hw
def l0_slices_DeleteFunc_int : LC := .seq (.seq (.ops [⟨some 16, none, .mv (.t 6)⟩,
      ⟨some 17, none, .mv (.t 0)⟩,
      ⟨some 18, none, .len (.t 17)⟩,
      ⟨some 19, none, .bin .lss (.t 16) (.t 18)⟩])
    (.cond (.t 19) (.skip)
    (.exit 0)))
    (.seq (.block 1 (.seq (.ops [⟨some 22, none, .mv (.t 0)⟩,
      ⟨some 23, none, .mv (.t 6)⟩,
      ⟨some 24, none, .ia 1 (.t 22) (.t 23)⟩,
      ⟨some 25, none, .ld (.t 24)⟩,
      ⟨some 7, none, .mv (.t 25)⟩])
    (.seq (.ops [⟨some 26, none, .mv (.t 1)⟩,
      ⟨some 27, none, .mv (.t 7)⟩,
      ⟨some 28, none, .call (.t 26) [.t 27]⟩,
      ⟨some 29, none, .not (.t 28)⟩])
    (.cond (.t 29) (.seq (.ops [⟨some 30, none, .mv (.t 0)⟩,
      ⟨some 31, none, .mv (.t 5)⟩,
      ⟨some 32, none, .mv (.t 7)⟩,
      ⟨some 33, none, .ia 1 (.t 30) (.t 31)⟩,
      ⟨none, none, .st 1 (.t 33) (.t 32)⟩])
    (.ops [⟨some 34, none, .mv (.t 5)⟩,
      ⟨some 35, none, .bin .add (.t 34) (.k (.i .i64 1))⟩,
      ⟨some 5, none, .mv (.t 35)⟩]))
    (.skip)))))
    (.ops [⟨some 20, none, .mv (.t 6)⟩,
      ⟨some 21, none, .bin .add (.t 20) (.k (.i .i64 1))⟩,
      ⟨some 6, none, .mv (.t 21)⟩]))
def c_slices_DeleteFunc_int : LC := .seq (.ops [⟨some 4, none, .mv (.k (.sn))⟩])
    (.seq (.ops [⟨some 8, none, .mv (.t 0)⟩,
      ⟨some 9, none, .mv (.t 1)⟩,
      ⟨some 10, none, .call (.k (.fn n_slices_IndexFunc_int [] [])) [.t 8, .t 9]⟩,
      ⟨some 5, none, .mv (.t 10)⟩])
    (.seq (.seq (.ops [⟨some 11, none, .mv (.t 5)⟩,
      ⟨some 12, none, .bin .eql (.t 11) (.k (.i .i64 (-1)))⟩])
    (.cond (.t 12) (.seq (.ops [⟨some 13, none, .mv (.t 0)⟩,
      ⟨some 4, none, .mv (.t 13)⟩])
    (.ret))
    (.skip)))
    (.seq (.seq (.ops [⟨some 14, none, .mv (.t 5)⟩,
      ⟨some 15, none, .bin .add (.t 14) (.k (.i .i64 1))⟩,
      ⟨some 6, none, .mv (.t 15)⟩])
    (.block 0 (.loop l0_slices_DeleteFunc_int)))
    (.seq (.ops [⟨some 36, none, .mv (.t 0)⟩,
      ⟨some 37, none, .mv (.t 5)⟩,
      ⟨some 38, none, .slc 1 (.t 36) (some (.t 37)) none none⟩,
      ⟨none, none, .clr (.t 38)⟩])
    (.seq (.ops [⟨some 39, none, .mv (.t 0)⟩,
      ⟨some 40, none, .mv (.t 5)⟩,
      ⟨some 41, none, .slc 1 (.t 39) none (some (.t 40)) none⟩,
      ⟨some 4, none, .mv (.t 41)⟩])
    (.ret))))))
theorem k_slices_DeleteFunc_int : chkF Try.prog Try.f80 42 c_slices_DeleteFunc_int [.t 4] = true := by kernel_rfl
theorem call_slices_DeleteFunc_int {args : List AV} {σ : List AB} {K : AV → List AB → Prop} (hn : args.length ≤ 42) (hw : wpC Try.prog σ.length 42 c_slices_DeleteFunc_int (retP σ.length [.t 4] K) ⟨initT 0 args, σ⟩) : CallWp Try.prog n_slices_DeleteFunc_int args σ K := call_fn mixed Try.func80 k_slices_DeleteFunc_int hn hw
def c_slices_Clone_int : LC := .seq (.ops [⟨some 2, none, .mv (.k (.sn))⟩])
    (.seq (.seq (.ops [⟨some 3, none, .mv (.t 0)⟩,
      ⟨some 4, none, .snil (.t 3)⟩])
    (.cond (.t 4) (.seq (.ops [⟨some 2, none, .mv (.k (.sn))⟩])
    (.ret))
    (.skip)))
    (.seq (.ops [⟨some 5, none, .bsl ty_int [.i .i64 0] 0 []⟩,
      ⟨some 6, none, .mv (.t 0)⟩,
      ⟨some 7, none, .appf ty_int 1 8 (.t 5) (.t 6)⟩,
      ⟨some 2, none, .mv (.t 7)⟩])
    (.ret)))
theorem k_slices_Clone_int : chkF Try.prog Try.f81 8 c_slices_Clone_int [.t 2] = true := by kernel_rfl
theorem call_slices_Clone_int {args : List AV} {σ : List AB} {K : AV → List AB → Prop} (hn : args.length ≤ 8) (hw : wpC Try.prog σ.length 8 c_slices_Clone_int (retP σ.length [.t 2] K) ⟨initT 0 args, σ⟩) : CallWp Try.prog n_slices_Clone_int args σ K := call_fn mixed Try.func81 k_slices_Clone_int hn hw
def c_impl_AssignPriorities_1_1 : LC := .seq (.ops [⟨some 3, none, .mv (.k (.b false))⟩])
    (.seq (.ops [⟨some 4, none, .mv (.t 0)⟩,
      ⟨some 5, none, .ld (.t 1)⟩,
      ⟨some 6, none, .bin .eql (.t 4) (.t 5)⟩,
      ⟨some 3, none, .mv (.t 6)⟩])
    (.ret))
theorem k_impl_AssignPriorities_1_1 : chkF Try.prog Try.f82 7 c_impl_AssignPriorities_1_1 [.t 3] = true := by kernel_rfl
theorem call_impl_AssignPriorities_1_1 {args : List AV} {σ : List AB} {K : AV → List AB → Prop} (hn : args.length ≤ 7) (hw : wpC Try.prog σ.length 7 c_impl_AssignPriorities_1_1 (retP σ.length [.t 3] K) ⟨initT 0 args, σ⟩) : CallWp Try.prog n_impl_AssignPriorities_1_1 args σ K := call_fn mixed Try.func82 k_impl_AssignPriorities_1_1 hn hw
def l0_impl_response : LC := .seq (.ops [⟨some 38, none, .bin .lss (.t 37) (.t 36)⟩])
    (.seq (.cond (.t 38) (.skip)
    (.exit 2))
    (.seq (.block 3 (.seq (.ops [⟨some 39, none, .ia 1 (.t 35) (.t 37)⟩,
      ⟨some 40, none, .ld (.t 39)⟩,
      ⟨some 12, none, .mv (.t 40)⟩])
    (.draw 20 [⟨some 41, none, .mv (.t 10)⟩,
      ⟨some 42, none, .mv (.t 9)⟩,
      ⟨some 43, none, .mv (.t 1)⟩,
      ⟨some 44, none, .mv (.t 12)⟩,
      ⟨some 45, none, .ia 1 (.t 43) (.t 44)⟩,
      ⟨some 46, none, .ld (.t 45)⟩,
      ⟨some 47, none, .bin .add (.t 42) (.t 46)⟩,
      ⟨some 48, none, .mv (.t 0)⟩,
      ⟨some 49, none, .mv (.t 12)⟩,
      ⟨some 50, none, .ia 3 (.t 48) (.t 49)⟩,
      ⟨some 51, none, .fa 2 (.t 50)⟩,
      ⟨some 52, none, .ld (.t 51)⟩,
      ⟨some 53, none, .call (.k (.fn n_impl_ceil [] [])) [.t 47, .t 52]⟩,
      ⟨some 54, none, .mv (.t 0)⟩,
      ⟨some 55, none, .mv (.t 12)⟩,
      ⟨some 56, none, .ia 3 (.t 54) (.t 55)⟩,
      ⟨some 57, none, .fa 0 (.t 56)⟩,
      ⟨some 58, none, .ld (.t 57)⟩,
      ⟨some 59, none, .bin .mul (.t 53) (.t 58)⟩,
      ⟨some 60, none, .bin .add (.t 41) (.t 59)⟩,
      ⟨some 10, none, .mv (.t 60)⟩])))
    (.ops [⟨some 61, none, .bin .add (.t 37) (.k (.i .i64 1))⟩,
      ⟨some 37, none, .mv (.t 61)⟩])))
def l1_impl_response : LC := .seq (.seq (.draw 12 [⟨some 18, none, .mv (.t 9)⟩,
      ⟨some 19, none, .mv (.t 1)⟩,
      ⟨some 20, none, .mv (.t 2)⟩,
      ⟨some 21, none, .ia 1 (.t 19) (.t 20)⟩,
      ⟨some 22, none, .ld (.t 21)⟩,
      ⟨some 23, none, .bin .add (.t 18) (.t 22)⟩,
      ⟨some 24, none, .mv (.t 0)⟩,
      ⟨some 25, none, .mv (.t 2)⟩,
      ⟨some 26, none, .ia 3 (.t 24) (.t 25)⟩,
      ⟨some 27, none, .fa 1 (.t 26)⟩,
      ⟨some 28, none, .ld (.t 27)⟩,
      ⟨some 29, none, .bin .leq (.t 23) (.t 28)⟩])
    (.cond (.t 29) (.skip)
    (.exit 0)))
    (.block 1 (.seq (.ops [⟨some 30, none, .mv (.t 0)⟩,
      ⟨some 31, none, .mv (.t 2)⟩,
      ⟨some 32, none, .ia 3 (.t 30) (.t 31)⟩,
      ⟨some 33, none, .fa 0 (.t 32)⟩,
      ⟨some 34, none, .ld (.t 33)⟩,
      ⟨some 10, none, .mv (.t 34)⟩])
    (.seq (.seq (.ops [⟨some 35, none, .mv (.t 3)⟩,
      ⟨some 36, none, .len (.t 35)⟩,
      ⟨some 37, none, .mv (.k (.i .i64 0))⟩])
    (.block 2 (.loop l0_impl_response)))
    (.seq (.seq (.ops [⟨some 62, none, .mv (.t 10)⟩,
      ⟨some 63, none, .mv (.t 9)⟩,
      ⟨some 64, none, .bin .eql (.t 62) (.t 63)⟩])
    (.cond (.t 64) (.seq (.ops [⟨some 65, none, .mv (.t 9)⟩,
      ⟨some 66, none, .mv (.t 1)⟩,
      ⟨some 67, none, .mv (.t 2)⟩,
      ⟨some 68, none, .ia 1 (.t 66) (.t 67)⟩,
      ⟨some 69, none, .ld (.t 68)⟩,
      ⟨some 70, none, .bin .add (.t 65) (.t 69)⟩,
      ⟨some 8, none, .mv (.t 70)⟩])
    (.ret))
    (.skip)))
    (.ops [⟨some 71, none, .mv (.t 10)⟩,
      ⟨some 9, none, .mv (.t 71)⟩])))))
def c_impl_response : LC := .seq (.ops [⟨some 8, none, .mv (.k (.i .i64 0))⟩])
    (.seq (.seq (.ops [⟨some 13, none, .mv (.t 0)⟩,
      ⟨some 14, none, .mv (.t 2)⟩,
      ⟨some 15, none, .ia 3 (.t 13) (.t 14)⟩,
      ⟨some 16, none, .fa 0 (.t 15)⟩,
      ⟨some 17, none, .ld (.t 16)⟩,
      ⟨some 9, none, .mv (.t 17)⟩])
    (.block 0 (.loop l1_impl_response)))
    (.seq (.ops [⟨some 8, none, .mv (.k (.i .i64 (-1)))⟩])
    (.ret)))
theorem k_impl_response : chkF Try.prog Try.f83 72 c_impl_response [.t 8] = true := by kernel_rfl
theorem call_impl_response {args : List AV} {σ : List AB} {K : AV → List AB → Prop} (hn : args.length ≤ 72) (hw : wpC Try.prog σ.length 72 c_impl_response (retP σ.length [.t 8] K) ⟨initT 0 args, σ⟩) : CallWp Try.prog n_impl_response args σ K := call_fn mixed Try.func83 k_impl_response hn hw
def c_slices_Delete_int : LC := .seq (.ops [⟨some 6, none, .mv (.k (.sn))⟩])
    (.seq (.ops [⟨some 8, none, .mv (.t 0)⟩,
      ⟨some 9, none, .mv (.t 1)⟩,
      ⟨some 10, none, .mv (.t 2)⟩,
      ⟨some 11, none, .mv (.t 0)⟩,
      ⟨some 12, none, .len (.t 11)⟩,
      ⟨some 13, none, .slc 1 (.t 8) (some (.t 9)) (some (.t 10)) (some (.t 12))⟩])
    (.seq (.seq (.ops [⟨some 14, none, .mv (.t 1)⟩,
      ⟨some 15, none, .mv (.t 2)⟩,
      ⟨some 16, none, .bin .eql (.t 14) (.t 15)⟩])
    (.cond (.t 16) (.seq (.ops [⟨some 17, none, .mv (.t 0)⟩,
      ⟨some 6, none, .mv (.t 17)⟩])
    (.ret))
    (.skip)))
    (.seq (.ops [⟨some 18, none, .mv (.t 0)⟩,
      ⟨some 19, none, .len (.t 18)⟩,
      ⟨some 7, none, .mv (.t 19)⟩])
    (.seq (.plan [0, 1, 2, 3, 4, 5] [⟨some 20, none, .mv (.t 0)⟩,
      ⟨some 21, none, .mv (.t 1)⟩,
      ⟨some 22, none, .slc 1 (.t 20) none (some (.t 21)) none⟩,
      ⟨some 23, none, .mv (.t 0)⟩,
      ⟨some 24, none, .mv (.t 2)⟩,
      ⟨some 25, none, .slc 1 (.t 23) (some (.t 24)) none none⟩]
      (.one 6 ⟨some 26, none, .api ty_int (.t 22) (.t 25)⟩ [] []
        []
      (.one 7 ⟨some 0, none, .mv (.t 26)⟩ [] []
        []
      .fin)))
    (.seq (.ops [⟨some 27, none, .mv (.t 0)⟩,
      ⟨some 28, none, .mv (.t 0)⟩,
      ⟨some 29, none, .len (.t 28)⟩,
      ⟨some 30, none, .mv (.t 7)⟩,
      ⟨some 31, none, .slc 1 (.t 27) (some (.t 29)) (some (.t 30)) none⟩,
      ⟨none, none, .clr (.t 31)⟩])
    (.seq (.ops [⟨some 32, none, .mv (.t 0)⟩,
      ⟨some 6, none, .mv (.t 32)⟩])
    (.ret)))))))
theorem k_slices_Delete_int : chkF Try.prog Try.f84 33 c_slices_Delete_int [.t 6] = true := by kernel_rfl
theorem call_slices_Delete_int {args : List AV} {σ : List AB} {K : AV → List AB → Prop} (hn : args.length ≤ 33) (hw : wpC Try.prog σ.length 33 c_slices_Delete_int (retP σ.length [.t 6] K) ⟨initT 0 args, σ⟩) : CallWp Try.prog n_slices_Delete_int args σ K := call_fn mixed Try.func84 k_slices_Delete_int hn hw
def l0_slices_Index_int : LC := .seq (.ops [⟨some 9, none, .bin .lss (.t 8) (.t 7)⟩])
    (.seq (.cond (.t 9) (.skip)
    (.exit 0))
    (.seq (.block 1 (.seq (.ops [⟨some 10, none, .mv (.t 8)⟩,
      ⟨some 5, none, .mv (.t 10)⟩])
    (.seq (.ops [⟨some 11, none, .mv (.t 1)⟩,
      ⟨some 12, none, .mv (.t 0)⟩,
      ⟨some 13, none, .mv (.t 5)⟩,
      ⟨some 14, none, .ia 1 (.t 12) (.t 13)⟩,
      ⟨some 15, none, .ld (.t 14)⟩,
      ⟨some 16, none, .bin .eql (.t 11) (.t 15)⟩])
    (.cond (.t 16) (.seq (.ops [⟨some 17, none, .mv (.t 5)⟩,
      ⟨some 4, none, .mv (.t 17)⟩])
    (.ret))
    (.skip)))))
    (.ops [⟨some 18, none, .bin .add (.t 8) (.k (.i .i64 1))⟩,
      ⟨some 8, none, .mv (.t 18)⟩])))
def c_slices_Index_int : LC := .seq (.ops [⟨some 4, none, .mv (.k (.i .i64 0))⟩])
    (.seq (.seq (.ops [⟨some 6, none, .mv (.t 0)⟩,
      ⟨some 7, none, .len (.t 6)⟩,
      ⟨some 8, none, .mv (.k (.i .i64 0))⟩])
    (.block 0 (.loop l0_slices_Index_int)))
    (.seq (.ops [⟨some 4, none, .mv (.k (.i .i64 (-1)))⟩])
    (.ret)))
theorem k_slices_Index_int : chkF Try.prog Try.f85 19 c_slices_Index_int [.t 4] = true := by kernel_rfl
theorem call_slices_Index_int {args : List AV} {σ : List AB} {K : AV → List AB → Prop} (hn : args.length ≤ 19) (hw : wpC Try.prog σ.length 19 c_slices_Index_int (retP σ.length [.t 4] K) ⟨initT 0 args, σ⟩) : CallWp Try.prog n_slices_Index_int args σ K := call_fn mixed Try.func85 k_slices_Index_int hn hw
def c_spec_l20Rd_pick : LC := .seq (.ops [⟨some 4, none, .mv (.k (.i .i64 0))⟩])
    (.seq (.ops [⟨some 7, none, .mv (.t 0)⟩,
      ⟨some 8, none, .mv (.t 0)⟩,
      ⟨some 9, none, .nilc (.t 8)⟩,
      ⟨some 10, none, .fa 1 (.t 9)⟩,
      ⟨some 11, none, .ld (.t 10)⟩,
      ⟨some 12, none, .bin .add (.t 11) (.k (.i .i64 1))⟩,
      ⟨some 13, none, .nilc (.t 7)⟩,
      ⟨some 14, none, .fa 1 (.t 13)⟩,
      ⟨none, none, .st 1 (.t 14) (.t 12)⟩])
    (.seq (.seq (.ops [⟨some 15, none, .mv (.t 1)⟩,
      ⟨some 16, none, .bin .lss (.t 15) (.k (.i .i64 1))⟩,
      ⟨some 17, none, .mv (.t 16)⟩,
      ⟨some 18, (some (17, false)), .mv (.t 0)⟩,
      ⟨some 19, (some (17, false)), .nilc (.t 18)⟩,
      ⟨some 20, (some (17, false)), .fa 0 (.t 19)⟩,
      ⟨some 21, (some (17, false)), .ld (.t 20)⟩,
      ⟨some 22, (some (17, false)), .len (.t 21)⟩,
      ⟨some 23, (some (17, false)), .bin .eql (.t 22) (.k (.i .i64 0))⟩,
      ⟨some 24, none, .pick (.t 17) (.k (.b true)) (.t 23)⟩])
    (.cond (.t 24) (.seq (.ops [⟨some 4, none, .mv (.k (.i .i64 0))⟩])
    (.ret))
    (.skip)))
    (.seq (.ops [⟨some 25, none, .mv (.t 0)⟩,
      ⟨some 26, none, .nilc (.t 25)⟩,
      ⟨some 27, none, .fa 1 (.t 26)⟩,
      ⟨some 28, none, .ld (.t 27)⟩,
      ⟨some 29, none, .bin .sub (.t 28) (.k (.i .i64 1))⟩,
      ⟨some 5, none, .mv (.t 29)⟩])
    (.seq (.seq (.ops [⟨some 30, none, .mv (.t 5)⟩,
      ⟨some 31, none, .mv (.t 0)⟩,
      ⟨some 32, none, .nilc (.t 31)⟩,
      ⟨some 33, none, .fa 0 (.t 32)⟩,
      ⟨some 34, none, .ld (.t 33)⟩,
      ⟨some 35, none, .len (.t 34)⟩,
      ⟨some 36, none, .bin .lss (.t 30) (.t 35)⟩])
    (.cond (.t 36) (.seq (.ops [⟨some 37, none, .mv (.t 0)⟩,
      ⟨some 38, none, .nilc (.t 37)⟩,
      ⟨some 39, none, .fa 0 (.t 38)⟩,
      ⟨some 40, none, .ld (.t 39)⟩,
      ⟨some 41, none, .mv (.t 5)⟩,
      ⟨some 42, none, .ia 1 (.t 40) (.t 41)⟩,
      ⟨some 43, none, .ld (.t 42)⟩,
      ⟨some 44, none, .conv .i64 (.t 43)⟩,
      ⟨some 45, none, .mv (.t 1)⟩,
      ⟨some 46, none, .bin .rem (.t 44) (.t 45)⟩,
      ⟨some 4, none, .mv (.t 46)⟩])
    (.ret))
    (.skip)))
    (.seq (.draw 45 [⟨some 47, none, .mv (.t 0)⟩,
      ⟨some 48, none, .nilc (.t 47)⟩,
      ⟨some 49, none, .fa 0 (.t 48)⟩,
      ⟨some 50, none, .ld (.t 49)⟩,
      ⟨some 51, none, .mv (.t 5)⟩,
      ⟨some 52, none, .mv (.t 0)⟩,
      ⟨some 53, none, .nilc (.t 52)⟩,
      ⟨some 54, none, .fa 0 (.t 53)⟩,
      ⟨some 55, none, .ld (.t 54)⟩,
      ⟨some 56, none, .len (.t 55)⟩,
      ⟨some 57, none, .bin .rem (.t 51) (.t 56)⟩,
      ⟨some 58, none, .ia 1 (.t 50) (.t 57)⟩,
      ⟨some 59, none, .ld (.t 58)⟩,
      ⟨some 60, none, .conv .i64 (.t 59)⟩,
      ⟨some 61, none, .bin .mul (.t 60) (.k (.i .i64 131))⟩,
      ⟨some 62, none, .mv (.t 0)⟩,
      ⟨some 63, none, .nilc (.t 62)⟩,
      ⟨some 64, none, .fa 0 (.t 63)⟩,
      ⟨some 65, none, .ld (.t 64)⟩,
      ⟨some 66, none, .mv (.t 5)⟩,
      ⟨some 67, none, .bin .mul (.t 66) (.k (.i .i64 7))⟩,
      ⟨some 68, none, .bin .add (.t 67) (.k (.i .i64 3))⟩,
      ⟨some 69, none, .mv (.t 0)⟩,
      ⟨some 70, none, .nilc (.t 69)⟩,
      ⟨some 71, none, .fa 0 (.t 70)⟩,
      ⟨some 72, none, .ld (.t 71)⟩,
      ⟨some 73, none, .len (.t 72)⟩,
      ⟨some 74, none, .bin .rem (.t 68) (.t 73)⟩,
      ⟨some 75, none, .ia 1 (.t 65) (.t 74)⟩,
      ⟨some 76, none, .ld (.t 75)⟩,
      ⟨some 77, none, .conv .i64 (.t 76)⟩,
      ⟨some 78, none, .bin .mul (.t 77) (.k (.i .i64 1117))⟩,
      ⟨some 79, none, .bin .add (.t 61) (.t 78)⟩,
      ⟨some 80, none, .mv (.t 5)⟩,
      ⟨some 81, none, .bin .mul (.t 80) (.k (.i .i64 29))⟩,
      ⟨some 82, none, .bin .add (.t 79) (.t 81)⟩,
      ⟨some 83, none, .mv (.t 5)⟩,
      ⟨some 84, none, .mv (.t 0)⟩,
      ⟨some 85, none, .nilc (.t 84)⟩,
      ⟨some 86, none, .fa 0 (.t 85)⟩,
      ⟨some 87, none, .ld (.t 86)⟩,
      ⟨some 88, none, .len (.t 87)⟩,
      ⟨some 89, none, .bin .quo (.t 83) (.t 88)⟩,
      ⟨some 90, none, .bin .mul (.t 89) (.k (.i .i64 53))⟩,
      ⟨some 91, none, .bin .add (.t 82) (.t 90)⟩,
      ⟨some 6, none, .mv (.t 91)⟩])
    (.seq (.ops [⟨some 92, none, .mv (.t 6)⟩,
      ⟨some 93, none, .mv (.t 6)⟩,
      ⟨some 94, none, .bin .quo (.t 93) (.k (.i .i64 64))⟩,
      ⟨some 95, none, .bin .xor (.t 92) (.t 94)⟩,
      ⟨some 6, none, .mv (.t 95)⟩])
    (.seq (.ops [⟨some 96, none, .mv (.t 6)⟩,
      ⟨some 97, none, .mv (.t 1)⟩,
      ⟨some 98, none, .bin .rem (.t 96) (.t 97)⟩,
      ⟨some 4, none, .mv (.t 98)⟩])
    (.ret))))))))
theorem k_spec_l20Rd_pick : chkF Try.prog Try.f86 99 c_spec_l20Rd_pick [.t 4] = true := by kernel_rfl
theorem call_spec_l20Rd_pick {args : List AV} {σ : List AB} {K : AV → List AB → Prop} (hn : args.length ≤ 99) (hw : wpC Try.prog σ.length 99 c_spec_l20Rd_pick (retP σ.length [.t 4] K) ⟨initT 0 args, σ⟩) : CallWp Try.prog n_spec_l20Rd_pick args σ K := call_fn mixed Try.func86 k_spec_l20Rd_pick hn hw
def c_spec_l20Task : LC := .seq (.ops [⟨some 4, none, .alloc ty_impl_Task [.i .i64 0, .i .i64 0, .i .i64 0]⟩])
    (.seq (.ops [⟨some 6, none, .mv (.t 0)⟩,
      ⟨some 7, none, .call (.k (.fn n_spec_l20Rd_pick [] [])) [.t 6, .k (.i .i64 12)]⟩,
      ⟨some 8, none, .bin .add (.k (.i .i64 1)) (.t 7)⟩,
      ⟨some 9, none, .bsl ty_int [.i .i64 0] 8 [(0, 1, .k (.i .i64 2)), (1, 1, .k (.i .i64 3)), (2, 1, .k (.i .i64 4)), (3, 1, .k (.i .i64 6)), (4, 1, .k (.i .i64 8)), (5, 1, .k (.i .i64 12)), (6, 1, .t 8), (7, 1, .k (.i .i64 5))]⟩,
      ⟨some 10, none, .mv (.t 0)⟩,
      ⟨some 11, none, .call (.k (.fn n_spec_l20Rd_pick [] [])) [.t 10, .k (.i .i64 8)]⟩,
      ⟨some 12, none, .ia 1 (.t 9) (.t 11)⟩,
      ⟨some 13, none, .ld (.t 12)⟩,
      ⟨some 14, none, .build [.i .i64 0, .i .i64 0, .i .i64 0] [(2, 1, .t 13)]⟩,
      ⟨some 5, none, .alloc ty_impl_Task [.i .i64 0, .i .i64 0, .i .i64 0]⟩,
      ⟨none, none, .st 3 (.t 5) (.t 14)⟩])
    (.join (.plan [0, 1, 2, 3, 4, 7, 8, 9, 10, 12] [⟨some 15, none, .fa 2 (.t 5)⟩,
      ⟨some 16, none, .ld (.t 15)⟩,
      ⟨some 17, none, .mv (.t 0)⟩,
      ⟨some 18, none, .fa 2 (.t 5)⟩,
      ⟨some 19, none, .ld (.t 18)⟩,
      ⟨some 22, none, .fa 2 (.t 5)⟩,
      ⟨some 23, none, .ld (.t 22)⟩,
      ⟨some 24, none, .bin .sub (.t 23) (.k (.i .i64 1))⟩,
      ⟨some 25, none, .mx (.k (.i .i64 1)) (.t 24)⟩,
      ⟨some 27, none, .mv (.t 0)⟩]
      (.one 5 ⟨some 20, none, .call (.k (.fn n_spec_l20Rd_pick [] [])) [.t 17, .t 19]⟩ [(16, none, 15), (23, none, 22)] [6]
        [⟨some 21, none, .bin .add (.k (.i .i64 1)) (.t 20)⟩]
      (.alt (.one 11 ⟨some 26, none, .bsl ty_int [.i .i64 0] 3 [(0, 1, .t 16), (1, 1, .t 21), (2, 1, .t 25)]⟩ [(19, none, 18), (23, none, 22)] []
        []
      (.one 13 ⟨some 28, none, .call (.k (.fn n_spec_l20Rd_pick [] [])) [.t 27, .k (.i .i64 3)]⟩ [(16, none, 15), (19, none, 18), (23, none, 22)] [14, 15, 16]
        [⟨some 29, none, .ia 1 (.t 26) (.t 28)⟩,
        ⟨some 30, none, .ld (.t 29)⟩,
        ⟨some 31, none, .fa 1 (.t 5)⟩]
      (.one 17 ⟨none, none, .st 1 (.t 31) (.t 30)⟩ [] []
        []
      .fin))) (.one 13 ⟨some 28, none, .call (.k (.fn n_spec_l20Rd_pick [] [])) [.t 27, .k (.i .i64 3)]⟩ [(16, none, 15), (19, none, 18), (23, none, 22)] []
        []
      (.one 11 ⟨some 26, none, .bsl ty_int [.i .i64 0] 3 [(0, 1, .t 16), (1, 1, .t 21), (2, 1, .t 25)]⟩ [(19, none, 18), (23, none, 22)] [14, 15, 16]
        [⟨some 29, none, .ia 1 (.t 26) (.t 28)⟩,
        ⟨some 30, none, .ld (.t 29)⟩,
        ⟨some 31, none, .fa 1 (.t 5)⟩]
      (.one 17 ⟨none, none, .st 1 (.t 31) (.t 30)⟩ [] []
        []
      .fin))))))
    (.join (.plan [0, 1, 2, 3, 4, 5, 6, 7, 8, 9, 10, 12] [⟨some 32, none, .mv (.t 0)⟩,
      ⟨some 33, none, .fa 1 (.t 5)⟩,
      ⟨some 34, none, .ld (.t 33)⟩,
      ⟨some 35, none, .fa 1 (.t 5)⟩,
      ⟨some 36, none, .ld (.t 35)⟩,
      ⟨some 37, none, .bin .quo (.t 36) (.k (.i .i64 2))⟩,
      ⟨some 38, none, .mx (.k (.i .i64 1)) (.t 37)⟩,
      ⟨some 39, none, .fa 1 (.t 5)⟩,
      ⟨some 40, none, .ld (.t 39)⟩,
      ⟨some 41, none, .bin .quo (.t 40) (.k (.i .i64 3))⟩,
      ⟨some 42, none, .mx (.k (.i .i64 1)) (.t 41)⟩,
      ⟨some 44, none, .mv (.t 0)⟩]
      (.alt (.one 11 ⟨some 43, none, .bsl ty_int [.i .i64 0] 3 [(0, 1, .t 34), (1, 1, .t 38), (2, 1, .t 42)]⟩ [(36, none, 35), (40, none, 39)] []
        []
      (.one 13 ⟨some 45, none, .call (.k (.fn n_spec_l20Rd_pick [] [])) [.t 44, .k (.i .i64 3)]⟩ [(34, none, 33), (36, none, 35), (40, none, 39)] [14, 15, 16]
        [⟨some 46, none, .ia 1 (.t 43) (.t 45)⟩,
        ⟨some 47, none, .ld (.t 46)⟩,
        ⟨some 48, none, .mn (.k (.i .i64 8)) (.t 47)⟩]
      (.one 17 ⟨some 49, none, .call (.k (.fn n_spec_l20Rd_pick [] [])) [.t 32, .t 48]⟩ [(34, none, 33), (36, none, 35), (40, none, 39), (47, none, 46)] [18, 19]
        [⟨some 50, none, .bin .add (.k (.i .i64 1)) (.t 49)⟩,
        ⟨some 51, none, .fa 0 (.t 5)⟩]
      (.one 20 ⟨none, none, .st 1 (.t 51) (.t 50)⟩ [] []
        []
      .fin)))) (.one 13 ⟨some 45, none, .call (.k (.fn n_spec_l20Rd_pick [] [])) [.t 44, .k (.i .i64 3)]⟩ [(34, none, 33), (36, none, 35), (40, none, 39)] []
        []
      (.one 11 ⟨some 43, none, .bsl ty_int [.i .i64 0] 3 [(0, 1, .t 34), (1, 1, .t 38), (2, 1, .t 42)]⟩ [(36, none, 35), (40, none, 39)] [14, 15, 16]
        [⟨some 46, none, .ia 1 (.t 43) (.t 45)⟩,
        ⟨some 47, none, .ld (.t 46)⟩,
        ⟨some 48, none, .mn (.k (.i .i64 8)) (.t 47)⟩]
      (.one 17 ⟨some 49, none, .call (.k (.fn n_spec_l20Rd_pick [] [])) [.t 32, .t 48]⟩ [(34, none, 33), (36, none, 35), (40, none, 39), (47, none, 46)] [18, 19]
        [⟨some 50, none, .bin .add (.k (.i .i64 1)) (.t 49)⟩,
        ⟨some 51, none, .fa 0 (.t 5)⟩]
      (.one 20 ⟨none, none, .st 1 (.t 51) (.t 50)⟩ [] []
        []
      .fin))))))
    (.join (.seq (.ops [⟨some 52, none, .mv (.t 0)⟩,
      ⟨some 53, none, .mv (.t 1)⟩,
      ⟨some 54, none, .call (.k (.fn n_spec_l20Rd_odd [] [])) [.t 52, .t 53]⟩])
    (.cond (.t 54) (.seq (.ops [⟨some 55, none, .mv (.t 0)⟩,
      ⟨some 56, none, .call (.k (.fn n_spec_l20Rd_pick [] [])) [.t 55, .k (.i .i64 3)]⟩])
    (.block 0 (.seq (.ops [⟨some 64, none, .bin .eql (.t 56) (.k (.i .i64 0))⟩,
      ⟨some 63, none, .mv (.t 64)⟩])
    (.cond (.t 63) (.plan [0, 1, 2, 4] [⟨some 65, none, .fa 1 (.t 5)⟩,
      ⟨some 66, none, .ld (.t 65)⟩,
      ⟨some 67, none, .bin .add (.t 66) (.k (.i .i64 1))⟩,
      ⟨some 69, none, .mv (.t 0)⟩]
      (.alt (.one 3 ⟨some 68, none, .bsl ty_int [.i .i64 0] 4 [(0, 1, .k (.i .i64 0)), (1, 1, .k (.i .i64 (-1))), (2, 1, .k (.i .i64 9)), (3, 1, .t 67)]⟩ [(66, none, 65)] []
        []
      (.one 5 ⟨some 70, none, .call (.k (.fn n_spec_l20Rd_pick [] [])) [.t 69, .k (.i .i64 4)]⟩ [(66, none, 65)] [6, 7, 8]
        [⟨some 71, none, .ia 1 (.t 68) (.t 70)⟩,
        ⟨some 72, none, .ld (.t 71)⟩,
        ⟨some 73, none, .fa 0 (.t 5)⟩]
      (.one 9 ⟨none, none, .st 1 (.t 73) (.t 72)⟩ [] []
        []
      .fin))) (.one 5 ⟨some 70, none, .call (.k (.fn n_spec_l20Rd_pick [] [])) [.t 69, .k (.i .i64 4)]⟩ [(66, none, 65)] []
        []
      (.one 3 ⟨some 68, none, .bsl ty_int [.i .i64 0] 4 [(0, 1, .k (.i .i64 0)), (1, 1, .k (.i .i64 (-1))), (2, 1, .k (.i .i64 9)), (3, 1, .t 67)]⟩ [(66, none, 65)] [6, 7, 8]
        [⟨some 71, none, .ia 1 (.t 68) (.t 70)⟩,
        ⟨some 72, none, .ld (.t 71)⟩,
        ⟨some 73, none, .fa 0 (.t 5)⟩]
      (.one 9 ⟨none, none, .st 1 (.t 73) (.t 72)⟩ [] []
        []
      .fin)))))
    (.seq (.ops [⟨some 75, none, .bin .eql (.t 56) (.k (.i .i64 1))⟩,
      ⟨some 74, none, .mv (.t 75)⟩])
    (.cond (.t 74) (.plan [0, 1, 2, 4] [⟨some 76, none, .fa 2 (.t 5)⟩,
      ⟨some 77, none, .ld (.t 76)⟩,
      ⟨some 78, none, .bin .add (.t 77) (.k (.i .i64 1))⟩,
      ⟨some 80, none, .mv (.t 0)⟩]
      (.alt (.one 3 ⟨some 79, none, .bsl ty_int [.i .i64 0] 3 [(0, 1, .k (.i .i64 0)), (1, 1, .t 78), (2, 1, .k (.i .i64 (-1)))]⟩ [(77, none, 76)] []
        []
      (.one 5 ⟨some 81, none, .call (.k (.fn n_spec_l20Rd_pick [] [])) [.t 80, .k (.i .i64 3)]⟩ [(77, none, 76)] [6, 7, 8]
        [⟨some 82, none, .ia 1 (.t 79) (.t 81)⟩,
        ⟨some 83, none, .ld (.t 82)⟩,
        ⟨some 84, none, .fa 1 (.t 5)⟩]
      (.one 9 ⟨none, none, .st 1 (.t 84) (.t 83)⟩ [] []
        []
      .fin))) (.one 5 ⟨some 81, none, .call (.k (.fn n_spec_l20Rd_pick [] [])) [.t 80, .k (.i .i64 3)]⟩ [(77, none, 76)] []
        []
      (.one 3 ⟨some 79, none, .bsl ty_int [.i .i64 0] 3 [(0, 1, .k (.i .i64 0)), (1, 1, .t 78), (2, 1, .k (.i .i64 (-1)))]⟩ [(77, none, 76)] [6, 7, 8]
        [⟨some 82, none, .ia 1 (.t 79) (.t 81)⟩,
        ⟨some 83, none, .ld (.t 82)⟩,
        ⟨some 84, none, .fa 1 (.t 5)⟩]
      (.one 9 ⟨none, none, .st 1 (.t 84) (.t 83)⟩ [] []
        []
      .fin)))))
    (.ops [⟨some 57, none, .bsl ty_int [.i .i64 0] 3 [(0, 1, .k (.i .i64 0)), (1, 1, .k (.i .i64 13)), (2, 1, .k (.i .i64 (-1)))]⟩,
      ⟨some 58, none, .mv (.t 0)⟩,
      ⟨some 59, none, .call (.k (.fn n_spec_l20Rd_pick [] [])) [.t 58, .k (.i .i64 3)]⟩,
      ⟨some 60, none, .ia 1 (.t 57) (.t 59)⟩,
      ⟨some 61, none, .ld (.t 60)⟩,
      ⟨some 62, none, .fa 2 (.t 5)⟩,
      ⟨none, none, .st 1 (.t 62) (.t 61)⟩])))))))
    (.skip)))
    (.seq (.ops [⟨some 85, none, .ldn 3 (.t 5)⟩,
      ⟨none, none, .st 3 (.t 4) (.t 85)⟩])
    (.ret))))))
theorem k_spec_l20Task : chkF Try.prog Try.f91 86 c_spec_l20Task [.c 4 (some 3)] = true := by kernel_rfl
theorem call_spec_l20Task {args : List AV} {σ : List AB} {K : AV → List AB → Prop} (hn : args.length ≤ 86) (hw : wpC Try.prog σ.length 86 c_spec_l20Task (retP σ.length [.c 4 (some 3)] K) ⟨initT 0 args, σ⟩) : CallWp Try.prog n_spec_l20Task args σ K := call_fn mixed Try.func91 k_spec_l20Task hn hw
def c_spec_l20Rd_odd : LC := .seq (.ops [⟨some 4, none, .mv (.k (.b false))⟩])
    (.seq (.ops [⟨some 5, none, .mv (.t 1)⟩,
      ⟨some 6, none, .bin .gtr (.t 5) (.k (.i .i64 0))⟩,
      ⟨some 7, none, .mv (.t 6)⟩,
      ⟨some 8, (some (7, true)), .mv (.t 0)⟩,
      ⟨some 9, (some (7, true)), .mv (.t 1)⟩,
      ⟨some 10, (some (7, true)), .call (.k (.fn n_spec_l20Rd_pick [] [])) [.t 8, .t 9]⟩,
      ⟨some 11, (some (7, true)), .mv (.t 1)⟩,
      ⟨some 12, (some (7, true)), .bin .sub (.t 11) (.k (.i .i64 1))⟩,
      ⟨some 13, (some (7, true)), .bin .eql (.t 10) (.t 12)⟩,
      ⟨some 14, none, .pick (.t 7) (.t 13) (.k (.b false))⟩,
      ⟨some 4, none, .mv (.t 14)⟩])
    (.ret))
theorem k_spec_l20Rd_odd : chkF Try.prog Try.f92 15 c_spec_l20Rd_odd [.t 4] = true := by kernel_rfl
theorem call_spec_l20Rd_odd {args : List AV} {σ : List AB} {K : AV → List AB → Prop} (hn : args.length ≤ 15) (hw : wpC Try.prog σ.length 15 c_spec_l20Rd_odd (retP σ.length [.t 4] K) ⟨initT 0 args, σ⟩) : CallWp Try.prog n_spec_l20Rd_odd args σ K := call_fn mixed Try.func92 k_spec_l20Rd_odd hn hw
def c_slices_ContainsFunc_impl_Task : LC := .seq (.ops [⟨some 4, none, .mv (.k (.b false))⟩])
    (.seq (.ops [⟨some 5, none, .mv (.t 0)⟩,
      ⟨some 6, none, .mv (.t 1)⟩,
      ⟨some 7, none, .call (.k (.fn n_slices_IndexFunc_impl_Task [] [])) [.t 5, .t 6]⟩,
      ⟨some 8, none, .bin .geq (.t 7) (.k (.i .i64 0))⟩,
      ⟨some 4, none, .mv (.t 8)⟩])
    (.ret))
theorem k_slices_ContainsFunc_impl_Task : chkF Try.prog Try.f101 9 c_slices_ContainsFunc_impl_Task [.t 4] = true := by kernel_rfl
theorem call_slices_ContainsFunc_impl_Task {args : List AV} {σ : List AB} {K : AV → List AB → Prop} (hn : args.length ≤ 9) (hw : wpC Try.prog σ.length 9 c_slices_ContainsFunc_impl_Task (retP σ.length [.t 4] K) ⟨initT 0 args, σ⟩) : CallWp Try.prog n_slices_ContainsFunc_impl_Task args σ K := call_fn mixed Try.func101 k_slices_ContainsFunc_impl_Task hn hw
def c_impl_SetValid_1 : LC := .seq (.ops [⟨some 1, none, .box ty_impl_Task (.t 0)⟩,
      ⟨some 2, none, .mv (.k (.b false))⟩])
    (.seq (.ops [⟨some 3, none, .ldn 3 (.t 1)⟩,
      ⟨some 4, none, .call (.k (.fn n_impl_TaskValid [] [])) [.t 3]⟩,
      ⟨some 5, none, .not (.t 4)⟩,
      ⟨some 2, none, .mv (.t 5)⟩])
    (.ret))
theorem k_impl_SetValid_1 : chkF Try.prog Try.f102 6 c_impl_SetValid_1 [.t 2] = true := by kernel_rfl
theorem call_impl_SetValid_1 {args : List AV} {σ : List AB} {K : AV → List AB → Prop} (hn : args.length ≤ 6) (hw : wpC Try.prog σ.length 6 c_impl_SetValid_1 (retP σ.length [.t 2] K) ⟨initT 0 args, σ⟩) : CallWp Try.prog n_impl_SetValid_1 args σ K := call_fn mixed Try.func102 k_impl_SetValid_1 hn hw
def l0_slices_stableCmpFunc_int : LC := .seq (.seq (.ops [⟨some 33, none, .mv (.t 8)⟩,
      ⟨some 34, none, .mv (.t 1)⟩,
      ⟨some 35, none, .bin .leq (.t 33) (.t 34)⟩])
    (.cond (.t 35) (.skip)
    (.exit 4)))
    (.block 5 (.seq (.ops [⟨some 36, none, .mv (.t 0)⟩,
      ⟨some 37, none, .mv (.t 7)⟩,
      ⟨some 38, none, .mv (.t 7)⟩,
      ⟨some 39, none, .mv (.t 6)⟩,
      ⟨some 40, none, .bin .add (.t 38) (.t 39)⟩,
      ⟨some 41, none, .mv (.t 8)⟩,
      ⟨some 42, none, .mv (.t 2)⟩,
      ⟨some 43, none, .call (.k (.fn n_slices_symMergeCmpFunc_int [] [])) [.t 36, .t 37, .t 40, .t 41, .t 42]⟩])
    (.seq (.ops [⟨some 44, none, .mv (.t 8)⟩,
      ⟨some 7, none, .mv (.t 44)⟩])
    (.ops [⟨some 45, none, .mv (.t 8)⟩,
      ⟨some 46, none, .mv (.t 6)⟩,
      ⟨some 47, none, .bin .mul (.k (.i .i64 2)) (.t 46)⟩,
      ⟨some 48, none, .bin .add (.t 45) (.t 47)⟩,
      ⟨some 8, none, .mv (.t 48)⟩]))))
def l1_slices_stableCmpFunc_int : LC := .seq (.seq (.ops [⟨some 28, none, .mv (.t 6)⟩,
      ⟨some 29, none, .mv (.t 1)⟩,
      ⟨some 30, none, .bin .lss (.t 28) (.t 29)⟩])
    (.cond (.t 30) (.skip)
    (.exit 2)))
    (.block 3 (.seq (.ops [⟨some 31, none, .mv (.t 6)⟩,
      ⟨some 32, none, .bin .mul (.k (.i .i64 2)) (.t 31)⟩,
      ⟨some 7, none, .mv (.k (.i .i64 0))⟩,
      ⟨some 8, none, .mv (.t 32)⟩])
    (.seq (.block 4 (.loop l0_slices_stableCmpFunc_int))
    (.seq (.seq (.ops [⟨some 49, none, .mv (.t 7)⟩,
      ⟨some 50, none, .mv (.t 6)⟩,
      ⟨some 51, none, .bin .add (.t 49) (.t 50)⟩,
      ⟨some 9, none, .mv (.t 51)⟩])
    (.seq (.ops [⟨some 52, none, .mv (.t 9)⟩,
      ⟨some 53, none, .mv (.t 1)⟩,
      ⟨some 54, none, .bin .lss (.t 52) (.t 53)⟩])
    (.cond (.t 54) (.ops [⟨some 55, none, .mv (.t 0)⟩,
      ⟨some 56, none, .mv (.t 7)⟩,
      ⟨some 57, none, .mv (.t 9)⟩,
      ⟨some 58, none, .mv (.t 1)⟩,
      ⟨some 59, none, .mv (.t 2)⟩,
      ⟨some 60, none, .call (.k (.fn n_slices_symMergeCmpFunc_int [] [])) [.t 55, .t 56, .t 57, .t 58, .t 59]⟩])
    (.skip))))
    (.ops [⟨some 61, none, .mv (.t 6)⟩,
      ⟨some 62, none, .bin .mul (.t 61) (.k (.i .i64 2))⟩,
      ⟨some 6, none, .mv (.t 62)⟩])))))
def l2_slices_stableCmpFunc_int : LC := .seq (.seq (.ops [⟨some 11, none, .mv (.t 8)⟩,
      ⟨some 12, none, .mv (.t 1)⟩,
      ⟨some 13, none, .bin .leq (.t 11) (.t 12)⟩])
    (.cond (.t 13) (.skip)
    (.exit 0)))
    (.block 1 (.seq (.ops [⟨some 14, none, .mv (.t 0)⟩,
      ⟨some 15, none, .mv (.t 7)⟩,
      ⟨some 16, none, .mv (.t 8)⟩,
      ⟨some 17, none, .mv (.t 2)⟩,
      ⟨some 18, none, .call (.k (.fn n_slices_insertionSortCmpFunc_int [] [])) [.t 14, .t 15, .t 16, .t 17]⟩])
    (.seq (.ops [⟨some 19, none, .mv (.t 8)⟩,
      ⟨some 7, none, .mv (.t 19)⟩])
    (.ops [⟨some 20, none, .mv (.t 8)⟩,
      ⟨some 21, none, .mv (.t 6)⟩,
      ⟨some 22, none, .bin .add (.t 20) (.t 21)⟩,
      ⟨some 8, none, .mv (.t 22)⟩]))))
def c_slices_stableCmpFunc_int : LC := .seq (.ops [⟨some 6, none, .mv (.k (.i .i64 20))⟩])
    (.seq (.ops [⟨some 10, none, .mv (.t 6)⟩,
      ⟨some 7, none, .mv (.k (.i .i64 0))⟩,
      ⟨some 8, none, .mv (.t 10)⟩])
    (.seq (.block 0 (.loop l2_slices_stableCmpFunc_int))
    (.seq (.ops [⟨some 23, none, .mv (.t 0)⟩,
      ⟨some 24, none, .mv (.t 7)⟩,
      ⟨some 25, none, .mv (.t 1)⟩,
      ⟨some 26, none, .mv (.t 2)⟩,
      ⟨some 27, none, .call (.k (.fn n_slices_insertionSortCmpFunc_int [] [])) [.t 23, .t 24, .t 25, .t 26]⟩])
    (.block 2 (.loop l1_slices_stableCmpFunc_int)))))
theorem k_slices_stableCmpFunc_int : chkF Try.prog Try.f106 63 c_slices_stableCmpFunc_int [] = true := by kernel_rfl
theorem call_slices_stableCmpFunc_int {args : List AV} {σ : List AB} {K : AV → List AB → Prop} (hn : args.length ≤ 63) (hw : wpC Try.prog σ.length 63 c_slices_stableCmpFunc_int (retP σ.length [] K) ⟨initT 0 args, σ⟩) : CallWp Try.prog n_slices_stableCmpFunc_int args σ K := call_fn mixed Try.func106 k_slices_stableCmpFunc_int hn hw
def c_impl_ceil : LC := .seq (.ops [⟨some 4, none, .mv (.k (.i .i64 0))⟩])
    (.seq (.ops [⟨some 5, none, .mv (.t 0)⟩,
      ⟨some 6, none, .mv (.t 1)⟩,
      ⟨some 7, none, .bin .add (.t 5) (.t 6)⟩,
      ⟨some 8, none, .bin .sub (.t 7) (.k (.i .i64 1))⟩,
      ⟨some 9, none, .mv (.t 1)⟩,
      ⟨some 10, none, .bin .quo (.t 8) (.t 9)⟩,
      ⟨some 4, none, .mv (.t 10)⟩])
    (.ret))
theorem k_impl_ceil : chkF Try.prog Try.f108 11 c_impl_ceil [.t 4] = true := by kernel_rfl
theorem call_impl_ceil {args : List AV} {σ : List AB} {K : AV → List AB → Prop} (hn : args.length ≤ 11) (hw : wpC Try.prog σ.length 11 c_impl_ceil (retP σ.length [.t 4] K) ⟨initT 0 args, σ⟩) : CallWp Try.prog n_impl_ceil args σ K := call_fn mixed Try.func108 k_impl_ceil hn hw
def l0_slices_IndexFunc_impl_Task : LC := .seq (.ops [⟨some 9, none, .bin .lss (.t 8) (.t 7)⟩])
    (.seq (.cond (.t 9) (.skip)
    (.exit 0))
    (.seq (.block 1 (.seq (.ops [⟨some 10, none, .mv (.t 8)⟩,
      ⟨some 5, none, .mv (.t 10)⟩])
    (.seq (.ops [⟨some 11, none, .mv (.t 1)⟩,
      ⟨some 12, none, .mv (.t 0)⟩,
      ⟨some 13, none, .mv (.t 5)⟩,
      ⟨some 14, none, .ia 3 (.t 12) (.t 13)⟩,
      ⟨some 15, none, .ldn 3 (.t 14)⟩,
      ⟨some 16, none, .call (.t 11) [.t 15]⟩])
    (.cond (.t 16) (.seq (.ops [⟨some 17, none, .mv (.t 5)⟩,
      ⟨some 4, none, .mv (.t 17)⟩])
    (.ret))
    (.skip)))))
    (.ops [⟨some 18, none, .bin .add (.t 8) (.k (.i .i64 1))⟩,
      ⟨some 8, none, .mv (.t 18)⟩])))
def c_slices_IndexFunc_impl_Task : LC := .seq (.ops [⟨some 4, none, .mv (.k (.i .i64 0))⟩])
    (.seq (.seq (.ops [⟨some 6, none, .mv (.t 0)⟩,
      ⟨some 7, none, .len (.t 6)⟩,
      ⟨some 8, none, .mv (.k (.i .i64 0))⟩])
    (.block 0 (.loop l0_slices_IndexFunc_impl_Task)))
    (.seq (.ops [⟨some 4, none, .mv (.k (.i .i64 (-1)))⟩])
    (.ret)))
theorem k_slices_IndexFunc_impl_Task : chkF Try.prog Try.f111 19 c_slices_IndexFunc_impl_Task [.t 4] = true := by kernel_rfl
theorem call_slices_IndexFunc_impl_Task {args : List AV} {σ : List AB} {K : AV → List AB → Prop} (hn : args.length ≤ 19) (hw : wpC Try.prog σ.length 19 c_slices_IndexFunc_impl_Task (retP σ.length [.t 4] K) ⟨initT 0 args, σ⟩) : CallWp Try.prog n_slices_IndexFunc_impl_Task args σ K := call_fn mixed Try.func111 k_slices_IndexFunc_impl_Task hn hw
def l0_slices_rotateCmpFunc_int : LC := .seq (.seq (.ops [⟨some 18, none, .mv (.t 10)⟩,
      ⟨some 19, none, .mv (.t 11)⟩,
      ⟨some 20, none, .bin .neq (.t 18) (.t 19)⟩])
    (.cond (.t 20) (.skip)
    (.exit 0)))
    (.block 1 (.seq (.ops [⟨some 21, none, .mv (.t 10)⟩,
      ⟨some 22, none, .mv (.t 11)⟩,
      ⟨some 23, none, .bin .gtr (.t 21) (.t 22)⟩])
    (.cond (.t 23) (.seq (.ops [⟨some 24, none, .mv (.t 0)⟩,
      ⟨some 25, none, .mv (.t 2)⟩,
      ⟨some 26, none, .mv (.t 10)⟩,
      ⟨some 27, none, .bin .sub (.t 25) (.t 26)⟩,
      ⟨some 28, none, .mv (.t 2)⟩,
      ⟨some 29, none, .mv (.t 11)⟩,
      ⟨some 30, none, .mv (.t 4)⟩,
      ⟨some 31, none, .call (.k (.fn n_slices_swapRangeCmpFunc_int [] [])) [.t 24, .t 27, .t 28, .t 29, .t 30]⟩])
    (.ops [⟨some 32, none, .mv (.t 10)⟩,
      ⟨some 33, none, .mv (.t 11)⟩,
      ⟨some 34, none, .bin .sub (.t 32) (.t 33)⟩,
      ⟨some 10, none, .mv (.t 34)⟩]))
    (.seq (.ops [⟨some 35, none, .mv (.t 0)⟩,
      ⟨some 36, none, .mv (.t 2)⟩,
      ⟨some 37, none, .mv (.t 10)⟩,
      ⟨some 38, none, .bin .sub (.t 36) (.t 37)⟩,
      ⟨some 39, none, .mv (.t 2)⟩,
      ⟨some 40, none, .mv (.t 11)⟩,
      ⟨some 41, none, .bin .add (.t 39) (.t 40)⟩,
      ⟨some 42, none, .mv (.t 10)⟩,
      ⟨some 43, none, .bin .sub (.t 41) (.t 42)⟩,
      ⟨some 44, none, .mv (.t 10)⟩,
      ⟨some 45, none, .mv (.t 4)⟩,
      ⟨some 46, none, .call (.k (.fn n_slices_swapRangeCmpFunc_int [] [])) [.t 35, .t 38, .t 43, .t 44, .t 45]⟩])
    (.ops [⟨some 47, none, .mv (.t 11)⟩,
      ⟨some 48, none, .mv (.t 10)⟩,
      ⟨some 49, none, .bin .sub (.t 47) (.t 48)⟩,
      ⟨some 11, none, .mv (.t 49)⟩])))))
def c_slices_rotateCmpFunc_int : LC := .seq (.ops [⟨some 12, none, .mv (.t 2)⟩,
      ⟨some 13, none, .mv (.t 1)⟩,
      ⟨some 14, none, .bin .sub (.t 12) (.t 13)⟩,
      ⟨some 10, none, .mv (.t 14)⟩])
    (.seq (.ops [⟨some 15, none, .mv (.t 3)⟩,
      ⟨some 16, none, .mv (.t 2)⟩,
      ⟨some 17, none, .bin .sub (.t 15) (.t 16)⟩,
      ⟨some 11, none, .mv (.t 17)⟩])
    (.seq (.block 0 (.loop l0_slices_rotateCmpFunc_int))
    (.ops [⟨some 50, none, .mv (.t 0)⟩,
      ⟨some 51, none, .mv (.t 2)⟩,
      ⟨some 52, none, .mv (.t 10)⟩,
      ⟨some 53, none, .bin .sub (.t 51) (.t 52)⟩,
      ⟨some 54, none, .mv (.t 2)⟩,
      ⟨some 55, none, .mv (.t 10)⟩,
      ⟨some 56, none, .mv (.t 4)⟩,
      ⟨some 57, none, .call (.k (.fn n_slices_swapRangeCmpFunc_int [] [])) [.t 50, .t 53, .t 54, .t 55, .t 56]⟩])))
theorem k_slices_rotateCmpFunc_int : chkF Try.prog Try.f116 58 c_slices_rotateCmpFunc_int [] = true := by kernel_rfl
theorem call_slices_rotateCmpFunc_int {args : List AV} {σ : List AB} {K : AV → List AB → Prop} (hn : args.length ≤ 58) (hw : wpC Try.prog σ.length 58 c_slices_rotateCmpFunc_int (retP σ.length [] K) ⟨initT 0 args, σ⟩) : CallWp Try.prog n_slices_rotateCmpFunc_int args σ K := call_fn mixed Try.func116 k_slices_rotateCmpFunc_int hn hw
end Go.Proofs.Ytgnlibnnpipbhaa
