import Derived.Test.YtfngcejaphhmmaaProg
import Derived.Test.YtfngcejaphhmmaaLowA
import Derived.KernelRfl
namespace Go.Proofs.Ytfngcejaphhmmaa
open Go.Abs
set_option maxRecDepth 100000
def l0_impl_worst : LC := .seq (.ops [⟨some 12, none, .bin .lss (.t 11) (.t 10)⟩])
    (.seq (.cond (.t 12) (.skip)
    (.exit 0))
    (.seq (.block 1 (.seq (.ops [⟨some 13, none, .mv (.t 11)⟩,
      ⟨some 14, none, .ia 5 (.t 9) (.t 11)⟩,
      ⟨some 15, none, .ldn 5 (.t 14)⟩,
      ⟨some 5, none, .alloc ty_impl_Node [.i .i64 0, .i .i64 0, .i .i64 0, .i .i64 0, .i .i64 0]⟩,
      ⟨some 4, none, .mv (.t 13)⟩,
      ⟨none, none, .st 5 (.t 5) (.t 15)⟩])
    (.seq (.ops [⟨some 16, none, .fa 0 (.t 5)⟩,
      ⟨some 17, none, .ld (.t 16)⟩])
    (.block 2 (.seq (.ops [⟨some 19, none, .bin .eql (.t 17) (.k (.i .i64 1))⟩,
      ⟨some 18, none, .mv (.t 19)⟩])
    (.cond (.t 18) (.ops [⟨some 20, none, .mv (.t 3)⟩,
      ⟨some 21, none, .mv (.t 4)⟩,
      ⟨some 22, none, .fa 1 (.t 5)⟩,
      ⟨some 23, none, .ld (.t 22)⟩,
      ⟨some 24, none, .ia 1 (.t 20) (.t 21)⟩,
      ⟨none, none, .st 1 (.t 24) (.t 23)⟩])
    (.seq (.ops [⟨some 26, none, .bin .eql (.t 17) (.k (.i .i64 2))⟩,
      ⟨some 25, none, .mv (.t 26)⟩])
    (.cond (.t 25) (.draw 13 [⟨some 27, none, .mv (.t 3)⟩,
      ⟨some 28, none, .mv (.t 4)⟩,
      ⟨some 29, none, .mv (.t 3)⟩,
      ⟨some 30, none, .fa 2 (.t 5)⟩,
      ⟨some 31, none, .ld (.t 30)⟩,
      ⟨some 32, none, .ia 1 (.t 29) (.t 31)⟩,
      ⟨some 33, none, .ld (.t 32)⟩,
      ⟨some 34, none, .mv (.t 3)⟩,
      ⟨some 35, none, .fa 3 (.t 5)⟩,
      ⟨some 36, none, .ld (.t 35)⟩,
      ⟨some 37, none, .ia 1 (.t 34) (.t 36)⟩,
      ⟨some 38, none, .ld (.t 37)⟩,
      ⟨some 39, none, .bin .add (.t 33) (.t 38)⟩,
      ⟨some 40, none, .ia 1 (.t 27) (.t 28)⟩,
      ⟨none, none, .st 1 (.t 40) (.t 39)⟩])
    (.seq (.ops [⟨some 42, none, .bin .eql (.t 17) (.k (.i .i64 3))⟩,
      ⟨some 41, none, .mv (.t 42)⟩])
    (.cond (.t 41) (.draw 16 [⟨some 43, none, .mv (.t 3)⟩,
      ⟨some 44, none, .mv (.t 4)⟩,
      ⟨some 45, none, .fa 1 (.t 5)⟩,
      ⟨some 46, none, .ld (.t 45)⟩,
      ⟨some 47, none, .mv (.t 3)⟩,
      ⟨some 48, none, .fa 2 (.t 5)⟩,
      ⟨some 49, none, .ld (.t 48)⟩,
      ⟨some 50, none, .ia 1 (.t 47) (.t 49)⟩,
      ⟨some 51, none, .ld (.t 50)⟩,
      ⟨some 52, none, .mv (.t 3)⟩,
      ⟨some 53, none, .fa 3 (.t 5)⟩,
      ⟨some 54, none, .ld (.t 53)⟩,
      ⟨some 55, none, .ia 1 (.t 52) (.t 54)⟩,
      ⟨some 56, none, .ld (.t 55)⟩,
      ⟨some 57, none, .mx (.t 51) (.t 56)⟩,
      ⟨some 58, none, .bin .add (.t 46) (.t 57)⟩,
      ⟨some 59, none, .ia 1 (.t 43) (.t 44)⟩,
      ⟨none, none, .st 1 (.t 59) (.t 58)⟩])
    (.seq (.ops [⟨some 61, none, .bin .eql (.t 17) (.k (.i .i64 4))⟩,
      ⟨some 60, none, .mv (.t 61)⟩])
    (.cond (.t 60) (.draw 16 [⟨some 62, none, .mv (.t 3)⟩,
      ⟨some 63, none, .mv (.t 4)⟩,
      ⟨some 64, none, .fa 1 (.t 5)⟩,
      ⟨some 65, none, .ld (.t 64)⟩,
      ⟨some 66, none, .fa 4 (.t 5)⟩,
      ⟨some 67, none, .ld (.t 66)⟩,
      ⟨some 68, none, .fa 1 (.t 5)⟩,
      ⟨some 69, none, .ld (.t 68)⟩,
      ⟨some 70, none, .mv (.t 3)⟩,
      ⟨some 71, none, .fa 2 (.t 5)⟩,
      ⟨some 72, none, .ld (.t 71)⟩,
      ⟨some 73, none, .ia 1 (.t 70) (.t 72)⟩,
      ⟨some 74, none, .ld (.t 73)⟩,
      ⟨some 75, none, .bin .add (.t 69) (.t 74)⟩,
      ⟨some 76, none, .bin .mul (.t 67) (.t 75)⟩,
      ⟨some 77, none, .bin .add (.t 65) (.t 76)⟩,
      ⟨some 78, none, .ia 1 (.t 62) (.t 63)⟩,
      ⟨none, none, .st 1 (.t 78) (.t 77)⟩])
    (.skip)))))))))))))
    (.ops [⟨some 79, none, .bin .add (.t 11) (.k (.i .i64 1))⟩,
      ⟨some 11, none, .mv (.t 79)⟩])))
def c_impl_worst : LC := .seq (.ops [⟨some 2, none, .mv (.k (.sn))⟩])
    (.seq (.ops [⟨some 6, none, .mv (.t 0)⟩,
      ⟨some 7, none, .len (.t 6)⟩,
      ⟨some 8, none, .msl ty_int 8 [.i .i64 0] (.t 7)⟩,
      ⟨some 3, none, .mv (.t 8)⟩])
    (.seq (.seq (.ops [⟨some 9, none, .mv (.t 0)⟩,
      ⟨some 10, none, .len (.t 9)⟩,
      ⟨some 11, none, .mv (.k (.i .i64 0))⟩])
    (.block 0 (.loop l0_impl_worst)))
    (.seq (.ops [⟨some 80, none, .mv (.t 3)⟩,
      ⟨some 2, none, .mv (.t 80)⟩])
    (.ret))))
theorem k_impl_worst : chkF Try.prog Try.f76 81 c_impl_worst [.t 2] = true := by kernel_rfl
theorem call_impl_worst {args : List AV} {σ : List AB} {K : AV → List AB → Prop} (hn : args.length ≤ 81) (hw : wpC Try.prog σ.length 81 c_impl_worst (retP σ.length [.t 2] K) ⟨initT 0 args, σ⟩) : CallWp Try.prog n_impl_worst args σ K := call_fn mixed Try.func76 k_impl_worst hn hw
def l0_impl_execute : LC := .seq (.ops [⟨some 63, none, .bin .lss (.t 62) (.t 61)⟩])
    (.seq (.cond (.t 63) (.skip)
    (.exit 1))
    (.seq (.block 2 (.plan [0, 1, 2, 3, 4, 5, 6] [⟨some 64, none, .mv (.t 9)⟩,
      ⟨some 65, none, .fa 1 (.t 7)⟩,
      ⟨some 66, none, .ld (.t 65)⟩,
      ⟨some 67, none, .mv (.t 0)⟩,
      ⟨some 68, none, .fa 2 (.t 7)⟩,
      ⟨some 69, none, .ld (.t 68)⟩,
      ⟨some 70, none, .mv (.t 2)⟩]
      (.one 7 ⟨some 71, none, .call (.k (.fn n_impl_execute [] [])) [.t 67, .t 69, .t 70]⟩ [(66, none, 65)] [8, 9]
        [⟨some 72, none, .bin .add (.t 66) (.t 71)⟩,
        ⟨some 73, none, .bin .add (.t 64) (.t 72)⟩]
      (.one 10 ⟨some 9, none, .mv (.t 73)⟩ [] []
        []
      .fin))))
    (.ops [⟨some 74, none, .bin .add (.t 62) (.k (.i .i64 1))⟩,
      ⟨some 62, none, .mv (.t 74)⟩])))
def c_impl_execute : LC := .seq (.ops [⟨some 6, none, .mv (.k (.i .i64 0))⟩])
    (.seq (.ops [⟨some 10, none, .mv (.t 0)⟩,
      ⟨some 11, none, .mv (.t 1)⟩,
      ⟨some 12, none, .ia 5 (.t 10) (.t 11)⟩,
      ⟨some 13, none, .ldn 5 (.t 12)⟩,
      ⟨some 7, none, .alloc ty_impl_Node [.i .i64 0, .i .i64 0, .i .i64 0, .i .i64 0, .i .i64 0]⟩,
      ⟨none, none, .st 5 (.t 7) (.t 13)⟩])
    (.seq (.seq (.ops [⟨some 14, none, .fa 0 (.t 7)⟩,
      ⟨some 15, none, .ld (.t 14)⟩])
    (.block 0 (.seq (.ops [⟨some 17, none, .bin .eql (.t 15) (.k (.i .i64 2))⟩,
      ⟨some 16, none, .mv (.t 17)⟩])
    (.cond (.t 16) (.seq (.ops [⟨some 18, none, .mv (.t 0)⟩,
      ⟨some 19, none, .fa 2 (.t 7)⟩,
      ⟨some 20, none, .ld (.t 19)⟩,
      ⟨some 21, none, .mv (.t 2)⟩,
      ⟨some 22, none, .call (.k (.fn n_impl_execute [] [])) [.t 18, .t 20, .t 21]⟩,
      ⟨some 8, none, .mv (.t 22)⟩])
    (.seq (.ops [⟨some 23, none, .mv (.t 8)⟩,
      ⟨some 24, none, .mv (.t 0)⟩,
      ⟨some 25, none, .fa 3 (.t 7)⟩,
      ⟨some 26, none, .ld (.t 25)⟩,
      ⟨some 27, none, .mv (.t 2)⟩,
      ⟨some 28, none, .call (.k (.fn n_impl_execute [] [])) [.t 24, .t 26, .t 27]⟩,
      ⟨some 29, none, .bin .add (.t 23) (.t 28)⟩,
      ⟨some 6, none, .mv (.t 29)⟩])
    (.ret)))
    (.seq (.ops [⟨some 31, none, .bin .eql (.t 15) (.k (.i .i64 3))⟩,
      ⟨some 30, none, .mv (.t 31)⟩])
    (.cond (.t 30) (.seq (.seq (.ops [⟨some 32, none, .mv (.t 2)⟩,
      ⟨some 33, none, .mv (.t 1)⟩,
      ⟨some 34, none, .call (.t 32) [.t 33, .k (.i .i64 2)]⟩,
      ⟨some 35, none, .bin .eql (.t 34) (.k (.i .i64 0))⟩])
    (.cond (.t 35) (.seq (.plan [0, 1, 2, 3, 4, 5] [⟨some 36, none, .fa 1 (.t 7)⟩,
      ⟨some 37, none, .ld (.t 36)⟩,
      ⟨some 38, none, .mv (.t 0)⟩,
      ⟨some 39, none, .fa 2 (.t 7)⟩,
      ⟨some 40, none, .ld (.t 39)⟩,
      ⟨some 41, none, .mv (.t 2)⟩]
      (.one 6 ⟨some 42, none, .call (.k (.fn n_impl_execute [] [])) [.t 38, .t 40, .t 41]⟩ [(37, none, 36)] [7, 8]
        [⟨some 43, none, .bin .add (.t 37) (.t 42)⟩,
        ⟨some 6, none, .mv (.t 43)⟩]
      .fin))
    (.ret))
    (.skip)))
    (.seq (.plan [0, 1, 2, 3, 4, 5] [⟨some 44, none, .fa 1 (.t 7)⟩,
      ⟨some 45, none, .ld (.t 44)⟩,
      ⟨some 46, none, .mv (.t 0)⟩,
      ⟨some 47, none, .fa 3 (.t 7)⟩,
      ⟨some 48, none, .ld (.t 47)⟩,
      ⟨some 49, none, .mv (.t 2)⟩]
      (.one 6 ⟨some 50, none, .call (.k (.fn n_impl_execute [] [])) [.t 46, .t 48, .t 49]⟩ [(45, none, 44)] [7, 8]
        [⟨some 51, none, .bin .add (.t 45) (.t 50)⟩,
        ⟨some 6, none, .mv (.t 51)⟩]
      .fin))
    (.ret)))
    (.seq (.ops [⟨some 53, none, .bin .eql (.t 15) (.k (.i .i64 4))⟩,
      ⟨some 52, none, .mv (.t 53)⟩])
    (.cond (.t 52) (.seq (.ops [⟨some 54, none, .fa 1 (.t 7)⟩,
      ⟨some 55, none, .ld (.t 54)⟩,
      ⟨some 9, none, .mv (.t 55)⟩])
    (.seq (.seq (.ops [⟨some 56, none, .mv (.t 2)⟩,
      ⟨some 57, none, .mv (.t 1)⟩,
      ⟨some 58, none, .fa 4 (.t 7)⟩,
      ⟨some 59, none, .ld (.t 58)⟩,
      ⟨some 60, none, .bin .add (.t 59) (.k (.i .i64 1))⟩,
      ⟨some 61, none, .call (.t 56) [.t 57, .t 60]⟩,
      ⟨some 62, none, .mv (.k (.i .i64 0))⟩])
    (.block 1 (.loop l0_impl_execute)))
    (.seq (.ops [⟨some 75, none, .mv (.t 9)⟩,
      ⟨some 6, none, .mv (.t 75)⟩])
    (.ret))))
    (.skip)))))))))
    (.seq (.ops [⟨some 76, none, .fa 1 (.t 7)⟩,
      ⟨some 77, none, .ld (.t 76)⟩,
      ⟨some 6, none, .mv (.t 77)⟩])
    (.ret))))
theorem k_impl_execute : chkF Try.prog Try.f77 78 c_impl_execute [.t 6] = true := by kernel_rfl
theorem call_impl_execute {args : List AV} {σ : List AB} {K : AV → List AB → Prop} (hn : args.length ≤ 78) (hw : wpC Try.prog σ.length 78 c_impl_execute (retP σ.length [.t 6] K) ⟨initT 0 args, σ⟩) : CallWp Try.prog n_impl_execute args σ K := call_fn mixed Try.func77 k_impl_execute hn hw
def c_impl_WorstChoices_1 : LC := .seq (.ops [⟨some 7, none, .mv (.k (.i .i64 0))⟩])
    (.seq (.ops [⟨some 10, none, .ld (.t 2)⟩,
      ⟨some 11, none, .mv (.t 0)⟩,
      ⟨some 12, none, .ia 5 (.t 10) (.t 11)⟩,
      ⟨some 13, none, .ldn 5 (.t 12)⟩,
      ⟨some 8, none, .alloc ty_impl_Node [.i .i64 0, .i .i64 0, .i .i64 0, .i .i64 0, .i .i64 0]⟩,
      ⟨none, none, .st 5 (.t 8) (.t 13)⟩])
    (.seq (.ops [⟨some 14, none, .mv (.t 1)⟩,
      ⟨some 15, none, .bin .sub (.t 14) (.k (.i .i64 1))⟩,
      ⟨some 9, none, .mv (.t 15)⟩])
    (.join (.seq (.draw 16 [⟨some 16, none, .fa 0 (.t 8)⟩,
      ⟨some 17, none, .ld (.t 16)⟩,
      ⟨some 18, none, .bin .eql (.t 17) (.k (.i .i64 3))⟩,
      ⟨some 19, none, .mv (.t 18)⟩,
      ⟨some 20, (some (19, true)), .ld (.t 3)⟩,
      ⟨some 21, (some (19, true)), .fa 3 (.t 8)⟩,
      ⟨some 22, (some (19, true)), .ld (.t 21)⟩,
      ⟨some 23, (some (19, true)), .ia 1 (.t 20) (.t 22)⟩,
      ⟨some 24, (some (19, true)), .ld (.t 23)⟩,
      ⟨some 25, (some (19, true)), .ld (.t 3)⟩,
      ⟨some 26, (some (19, true)), .fa 2 (.t 8)⟩,
      ⟨some 27, (some (19, true)), .ld (.t 26)⟩,
      ⟨some 28, (some (19, true)), .ia 1 (.t 25) (.t 27)⟩,
      ⟨some 29, (some (19, true)), .ld (.t 28)⟩,
      ⟨some 30, (some (19, true)), .bin .leq (.t 24) (.t 29)⟩,
      ⟨some 31, none, .pick (.t 19) (.t 30) (.k (.b false))⟩])
    (.cond (.t 31) (.ops [⟨some 9, none, .mv (.k (.i .i64 0))⟩])
    (.skip)))
    (.seq (.ops [⟨some 32, none, .ld (.t 4)⟩,
      ⟨some 33, none, .mv (.t 9)⟩,
      ⟨some 34, none, .bsl ty_int [.i .i64 0] 1 [(0, 1, .t 33)]⟩,
      ⟨some 35, none, .app ty_int 1 8 (.t 32) (.t 34)⟩,
      ⟨none, none, .st 1 (.t 4) (.t 35)⟩])
    (.seq (.ops [⟨some 36, none, .mv (.t 9)⟩,
      ⟨some 7, none, .mv (.t 36)⟩])
    (.ret))))))
theorem k_impl_WorstChoices_1 : chkF Try.prog Try.f78 37 c_impl_WorstChoices_1 [.t 7] = true := by kernel_rfl
theorem call_impl_WorstChoices_1 {args : List AV} {σ : List AB} {K : AV → List AB → Prop} (hn : args.length ≤ 37) (hw : wpC Try.prog σ.length 37 c_impl_WorstChoices_1 (retP σ.length [.t 7] K) ⟨initT 0 args, σ⟩) : CallWp Try.prog n_impl_WorstChoices_1 args σ K := call_fn mixed Try.func78 k_impl_WorstChoices_1 hn hw
def c_impl_clone_int : LC := .seq (.ops [⟨some 2, none, .mv (.k (.sn))⟩])
    (.seq (.ops [⟨some 3, none, .mv (.t 0)⟩,
      ⟨some 4, none, .call (.k (.fn n_slices_Clone_int [] [])) [.t 3]⟩,
      ⟨some 5, none, .call (.k (.fn n_slices_Clip_int [] [])) [.t 4]⟩,
      ⟨some 2, none, .mv (.t 5)⟩])
    (.ret))
theorem k_impl_clone_int : chkF Try.prog Try.f79 6 c_impl_clone_int [.t 2] = true := by kernel_rfl
theorem call_impl_clone_int {args : List AV} {σ : List AB} {K : AV → List AB → Prop} (hn : args.length ≤ 6) (hw : wpC Try.prog σ.length 6 c_impl_clone_int (retP σ.length [.t 2] K) ⟨initT 0 args, σ⟩) : CallWp Try.prog n_impl_clone_int args σ K := call_fn mixed Try.func79 k_impl_clone_int hn hw
def l0_spec_l8Worst : LC := .seq (.seq (.ops [⟨some 62, none, .mv (.t 9)⟩,
      ⟨some 63, none, .fa 4 (.t 7)⟩,
      ⟨some 64, none, .ld (.t 63)⟩,
      ⟨some 65, none, .bin .lss (.t 62) (.t 64)⟩])
    (.cond (.t 65) (.skip)
    (.exit 1)))
    (.seq (.block 2 (.ops [⟨some 68, none, .mv (.t 8)⟩,
      ⟨some 69, none, .mv (.t 0)⟩,
      ⟨some 70, none, .mv (.t 1)⟩,
      ⟨some 71, none, .fa 2 (.t 7)⟩,
      ⟨some 72, none, .ld (.t 71)⟩,
      ⟨some 73, none, .call (.k (.fn n_spec_l8Worst [] [])) [.t 69, .t 70, .t 72]⟩,
      ⟨some 74, none, .app ty_int 1 8 (.t 68) (.t 73)⟩,
      ⟨some 8, none, .mv (.t 74)⟩]))
    (.ops [⟨some 66, none, .mv (.t 9)⟩,
      ⟨some 67, none, .bin .add (.t 66) (.k (.i .i64 1))⟩,
      ⟨some 9, none, .mv (.t 67)⟩]))
def c_spec_l8Worst : LC := .seq (.ops [⟨some 6, none, .mv (.k (.sn))⟩])
    (.seq (.ops [⟨some 10, none, .mv (.t 0)⟩,
      ⟨some 11, none, .mv (.t 2)⟩,
      ⟨some 12, none, .ia 5 (.t 10) (.t 11)⟩,
      ⟨some 13, none, .ldn 5 (.t 12)⟩,
      ⟨some 7, none, .alloc ty_impl_Node [.i .i64 0, .i .i64 0, .i .i64 0, .i .i64 0, .i .i64 0]⟩,
      ⟨none, none, .st 5 (.t 7) (.t 13)⟩])
    (.seq (.seq (.ops [⟨some 14, none, .fa 0 (.t 7)⟩,
      ⟨some 15, none, .ld (.t 14)⟩])
    (.block 0 (.seq (.ops [⟨some 17, none, .bin .eql (.t 15) (.k (.i .i64 1))⟩,
      ⟨some 16, none, .mv (.t 17)⟩])
    (.cond (.t 16) (.seq (.ops [⟨some 18, none, .bsl ty_int [.i .i64 0] 0 []⟩,
      ⟨some 6, none, .mv (.t 18)⟩])
    (.ret))
    (.seq (.ops [⟨some 20, none, .bin .eql (.t 15) (.k (.i .i64 2))⟩,
      ⟨some 19, none, .mv (.t 20)⟩])
    (.cond (.t 19) (.seq (.plan [0, 1, 2, 3, 5, 6, 7, 8] [⟨some 21, none, .mv (.t 0)⟩,
      ⟨some 22, none, .mv (.t 1)⟩,
      ⟨some 23, none, .fa 2 (.t 7)⟩,
      ⟨some 24, none, .ld (.t 23)⟩,
      ⟨some 26, none, .mv (.t 0)⟩,
      ⟨some 27, none, .mv (.t 1)⟩,
      ⟨some 28, none, .fa 3 (.t 7)⟩,
      ⟨some 29, none, .ld (.t 28)⟩]
      (.one 4 ⟨some 25, none, .call (.k (.fn n_spec_l8Worst [] [])) [.t 21, .t 22, .t 24]⟩ [(29, none, 28)] []
        []
      (.one 9 ⟨some 30, none, .call (.k (.fn n_spec_l8Worst [] [])) [.t 26, .t 27, .t 29]⟩ [(24, none, 23)] []
        []
      (.one 10 ⟨some 31, none, .app ty_int 1 8 (.t 25) (.t 30)⟩ [(24, none, 23), (29, none, 28)] [11]
        [⟨some 6, none, .mv (.t 31)⟩]
      .fin))))
    (.ret))
    (.seq (.ops [⟨some 33, none, .bin .eql (.t 15) (.k (.i .i64 3))⟩,
      ⟨some 32, none, .mv (.t 33)⟩])
    (.cond (.t 32) (.seq (.seq (.draw 11 [⟨some 34, none, .mv (.t 1)⟩,
      ⟨some 35, none, .fa 2 (.t 7)⟩,
      ⟨some 36, none, .ld (.t 35)⟩,
      ⟨some 37, none, .ia 1 (.t 34) (.t 36)⟩,
      ⟨some 38, none, .ld (.t 37)⟩,
      ⟨some 39, none, .mv (.t 1)⟩,
      ⟨some 40, none, .fa 3 (.t 7)⟩,
      ⟨some 41, none, .ld (.t 40)⟩,
      ⟨some 42, none, .ia 1 (.t 39) (.t 41)⟩,
      ⟨some 43, none, .ld (.t 42)⟩,
      ⟨some 44, none, .bin .geq (.t 38) (.t 43)⟩])
    (.cond (.t 44) (.seq (.ops [⟨some 45, none, .bsl ty_int [.i .i64 0] 1 [(0, 1, .k (.i .i64 0))]⟩,
      ⟨some 46, none, .mv (.t 0)⟩,
      ⟨some 47, none, .mv (.t 1)⟩,
      ⟨some 48, none, .fa 2 (.t 7)⟩,
      ⟨some 49, none, .ld (.t 48)⟩,
      ⟨some 50, none, .call (.k (.fn n_spec_l8Worst [] [])) [.t 46, .t 47, .t 49]⟩,
      ⟨some 51, none, .app ty_int 1 8 (.t 45) (.t 50)⟩,
      ⟨some 6, none, .mv (.t 51)⟩])
    (.ret))
    (.skip)))
    (.seq (.ops [⟨some 52, none, .bsl ty_int [.i .i64 0] 1 [(0, 1, .k (.i .i64 1))]⟩,
      ⟨some 53, none, .mv (.t 0)⟩,
      ⟨some 54, none, .mv (.t 1)⟩,
      ⟨some 55, none, .fa 3 (.t 7)⟩,
      ⟨some 56, none, .ld (.t 55)⟩,
      ⟨some 57, none, .call (.k (.fn n_spec_l8Worst [] [])) [.t 53, .t 54, .t 56]⟩,
      ⟨some 58, none, .app ty_int 1 8 (.t 52) (.t 57)⟩,
      ⟨some 6, none, .mv (.t 58)⟩])
    (.ret)))
    (.skip)))))))))
    (.seq (.ops [⟨some 59, none, .fa 4 (.t 7)⟩,
      ⟨some 60, none, .ld (.t 59)⟩,
      ⟨some 61, none, .bsl ty_int [.i .i64 0] 1 [(0, 1, .t 60)]⟩,
      ⟨some 8, none, .mv (.t 61)⟩])
    (.seq (.seq (.ops [⟨some 9, none, .mv (.k (.i .i64 0))⟩])
    (.block 1 (.loop l0_spec_l8Worst)))
    (.seq (.ops [⟨some 75, none, .mv (.t 8)⟩,
      ⟨some 6, none, .mv (.t 75)⟩])
    (.ret))))))
theorem k_spec_l8Worst : chkF Try.prog Try.f80 76 c_spec_l8Worst [.t 6] = true := by kernel_rfl
theorem call_spec_l8Worst {args : List AV} {σ : List AB} {K : AV → List AB → Prop} (hn : args.length ≤ 76) (hw : wpC Try.prog σ.length 76 c_spec_l8Worst (retP σ.length [.t 6] K) ⟨initT 0 args, σ⟩) : CallWp Try.prog n_spec_l8Worst args σ K := call_fn mixed Try.func80 k_spec_l8Worst hn hw
def l0_spec_l8Costs : LC := .seq (.seq (.ops [⟨some 10, none, .mv (.t 6)⟩,
      ⟨some 11, none, .mv (.t 0)⟩,
      ⟨some 12, none, .len (.t 11)⟩,
      ⟨some 13, none, .bin .lss (.t 10) (.t 12)⟩])
    (.cond (.t 13) (.skip)
    (.exit 0)))
    (.seq (.block 1 (.seq (.ops [⟨some 16, none, .mv (.t 0)⟩,
      ⟨some 17, none, .mv (.t 6)⟩,
      ⟨some 18, none, .ia 5 (.t 16) (.t 17)⟩,
      ⟨some 19, none, .ldn 5 (.t 18)⟩,
      ⟨some 7, none, .alloc ty_impl_Node [.i .i64 0, .i .i64 0, .i .i64 0, .i .i64 0, .i .i64 0]⟩,
      ⟨none, none, .st 5 (.t 7) (.t 19)⟩])
    (.seq (.ops [⟨some 20, none, .fa 1 (.t 7)⟩,
      ⟨some 21, none, .ld (.t 20)⟩,
      ⟨some 8, none, .mv (.t 21)⟩])
    (.seq (.seq (.ops [⟨some 22, none, .fa 0 (.t 7)⟩,
      ⟨some 23, none, .ld (.t 22)⟩])
    (.block 2 (.seq (.ops [⟨some 25, none, .bin .eql (.t 23) (.k (.i .i64 2))⟩,
      ⟨some 24, none, .mv (.t 25)⟩])
    (.cond (.t 24) (.draw 11 [⟨some 26, none, .mv (.t 5)⟩,
      ⟨some 27, none, .fa 2 (.t 7)⟩,
      ⟨some 28, none, .ld (.t 27)⟩,
      ⟨some 29, none, .ia 1 (.t 26) (.t 28)⟩,
      ⟨some 30, none, .ld (.t 29)⟩,
      ⟨some 31, none, .mv (.t 5)⟩,
      ⟨some 32, none, .fa 3 (.t 7)⟩,
      ⟨some 33, none, .ld (.t 32)⟩,
      ⟨some 34, none, .ia 1 (.t 31) (.t 33)⟩,
      ⟨some 35, none, .ld (.t 34)⟩,
      ⟨some 36, none, .bin .add (.t 30) (.t 35)⟩,
      ⟨some 8, none, .mv (.t 36)⟩])
    (.seq (.ops [⟨some 38, none, .bin .eql (.t 23) (.k (.i .i64 3))⟩,
      ⟨some 37, none, .mv (.t 38)⟩])
    (.cond (.t 37) (.seq (.ops [⟨some 39, none, .mv (.t 1)⟩])
    (.cond (.t 39) (.draw 14 [⟨some 40, none, .fa 1 (.t 7)⟩,
      ⟨some 41, none, .ld (.t 40)⟩,
      ⟨some 42, none, .mv (.t 5)⟩,
      ⟨some 43, none, .fa 2 (.t 7)⟩,
      ⟨some 44, none, .ld (.t 43)⟩,
      ⟨some 45, none, .ia 1 (.t 42) (.t 44)⟩,
      ⟨some 46, none, .ld (.t 45)⟩,
      ⟨some 47, none, .mv (.t 5)⟩,
      ⟨some 48, none, .fa 3 (.t 7)⟩,
      ⟨some 49, none, .ld (.t 48)⟩,
      ⟨some 50, none, .ia 1 (.t 47) (.t 49)⟩,
      ⟨some 51, none, .ld (.t 50)⟩,
      ⟨some 52, none, .mx (.t 46) (.t 51)⟩,
      ⟨some 53, none, .bin .add (.t 41) (.t 52)⟩,
      ⟨some 8, none, .mv (.t 53)⟩])
    (.draw 14 [⟨some 54, none, .fa 1 (.t 7)⟩,
      ⟨some 55, none, .ld (.t 54)⟩,
      ⟨some 56, none, .mv (.t 5)⟩,
      ⟨some 57, none, .fa 2 (.t 7)⟩,
      ⟨some 58, none, .ld (.t 57)⟩,
      ⟨some 59, none, .ia 1 (.t 56) (.t 58)⟩,
      ⟨some 60, none, .ld (.t 59)⟩,
      ⟨some 61, none, .mv (.t 5)⟩,
      ⟨some 62, none, .fa 3 (.t 7)⟩,
      ⟨some 63, none, .ld (.t 62)⟩,
      ⟨some 64, none, .ia 1 (.t 61) (.t 63)⟩,
      ⟨some 65, none, .ld (.t 64)⟩,
      ⟨some 66, none, .mn (.t 60) (.t 65)⟩,
      ⟨some 67, none, .bin .add (.t 55) (.t 66)⟩,
      ⟨some 8, none, .mv (.t 67)⟩])))
    (.seq (.ops [⟨some 69, none, .bin .eql (.t 23) (.k (.i .i64 4))⟩,
      ⟨some 68, none, .mv (.t 69)⟩])
    (.cond (.t 68) (.seq (.ops [⟨some 70, none, .mv (.t 1)⟩])
    (.cond (.t 70) (.draw 14 [⟨some 71, none, .fa 1 (.t 7)⟩,
      ⟨some 72, none, .ld (.t 71)⟩,
      ⟨some 73, none, .fa 4 (.t 7)⟩,
      ⟨some 74, none, .ld (.t 73)⟩,
      ⟨some 75, none, .fa 1 (.t 7)⟩,
      ⟨some 76, none, .ld (.t 75)⟩,
      ⟨some 77, none, .mv (.t 5)⟩,
      ⟨some 78, none, .fa 2 (.t 7)⟩,
      ⟨some 79, none, .ld (.t 78)⟩,
      ⟨some 80, none, .ia 1 (.t 77) (.t 79)⟩,
      ⟨some 81, none, .ld (.t 80)⟩,
      ⟨some 82, none, .bin .add (.t 76) (.t 81)⟩,
      ⟨some 83, none, .bin .mul (.t 74) (.t 82)⟩,
      ⟨some 84, none, .bin .add (.t 72) (.t 83)⟩,
      ⟨some 8, none, .mv (.t 84)⟩])
    (.skip)))
    (.skip)))))))))
    (.ops [⟨some 85, none, .mv (.t 5)⟩,
      ⟨some 86, none, .mv (.t 8)⟩,
      ⟨some 87, none, .mn (.t 86) (.k (.i .i64 601))⟩,
      ⟨some 88, none, .bsl ty_int [.i .i64 0] 1 [(0, 1, .t 87)]⟩,
      ⟨some 89, none, .app ty_int 1 8 (.t 85) (.t 88)⟩,
      ⟨some 5, none, .mv (.t 89)⟩])))))
    (.ops [⟨some 14, none, .mv (.t 6)⟩,
      ⟨some 15, none, .bin .add (.t 14) (.k (.i .i64 1))⟩,
      ⟨some 6, none, .mv (.t 15)⟩]))
def c_spec_l8Costs : LC := .seq (.ops [⟨some 4, none, .mv (.k (.sn))⟩])
    (.seq (.ops [⟨some 9, none, .bsl ty_int [.i .i64 0] 0 []⟩,
      ⟨some 5, none, .mv (.t 9)⟩])
    (.seq (.seq (.ops [⟨some 6, none, .mv (.k (.i .i64 0))⟩])
    (.block 0 (.loop l0_spec_l8Costs)))
    (.seq (.ops [⟨some 90, none, .mv (.t 5)⟩,
      ⟨some 4, none, .mv (.t 90)⟩])
    (.ret))))
theorem k_spec_l8Costs : chkF Try.prog Try.f81 91 c_spec_l8Costs [.t 4] = true := by kernel_rfl
theorem call_spec_l8Costs {args : List AV} {σ : List AB} {K : AV → List AB → Prop} (hn : args.length ≤ 91) (hw : wpC Try.prog σ.length 91 c_spec_l8Costs (retP σ.length [.t 4] K) ⟨initT 0 args, σ⟩) : CallWp Try.prog n_spec_l8Costs args σ K := call_fn mixed Try.func81 k_spec_l8Costs hn hw
def c_spec_l8Node : LC := .seq (.ops [⟨some 2, none, .box ty_impl_Node (.t 0)⟩,
      ⟨some 4, none, .mv (.k (.b false))⟩])
    (.seq (.seq (.ops [⟨some 5, none, .fa 0 (.t 2)⟩,
      ⟨some 6, none, .ld (.t 5)⟩])
    (.block 0 (.seq (.ops [⟨some 8, none, .bin .eql (.t 6) (.k (.i .i64 1))⟩,
      ⟨some 7, none, .mv (.t 8)⟩])
    (.cond (.t 7) (.seq (.ops [⟨some 9, none, .fa 1 (.t 2)⟩,
      ⟨some 10, none, .ld (.t 9)⟩,
      ⟨some 11, none, .call (.k (.fn n_spec_l1In [] [])) [.t 10, .k (.i .i64 1), .k (.i .i64 9)]⟩,
      ⟨some 12, none, .mv (.t 11)⟩,
      ⟨some 13, (some (12, true)), .fa 2 (.t 2)⟩,
      ⟨some 14, (some (12, true)), .ld (.t 13)⟩,
      ⟨some 15, (some (12, true)), .bin .eql (.t 14) (.k (.i .i64 0))⟩,
      ⟨some 16, none, .pick (.t 12) (.t 15) (.k (.b false))⟩,
      ⟨some 17, none, .mv (.t 16)⟩,
      ⟨some 18, (some (17, true)), .fa 3 (.t 2)⟩,
      ⟨some 19, (some (17, true)), .ld (.t 18)⟩,
      ⟨some 20, (some (17, true)), .bin .eql (.t 19) (.k (.i .i64 0))⟩,
      ⟨some 21, none, .pick (.t 17) (.t 20) (.k (.b false))⟩,
      ⟨some 22, none, .mv (.t 21)⟩,
      ⟨some 23, (some (22, true)), .fa 4 (.t 2)⟩,
      ⟨some 24, (some (22, true)), .ld (.t 23)⟩,
      ⟨some 25, (some (22, true)), .bin .eql (.t 24) (.k (.i .i64 0))⟩,
      ⟨some 26, none, .pick (.t 22) (.t 25) (.k (.b false))⟩,
      ⟨some 4, none, .mv (.t 26)⟩])
    (.ret))
    (.seq (.ops [⟨some 28, none, .bin .eql (.t 6) (.k (.i .i64 2))⟩,
      ⟨some 27, none, .mv (.t 28)⟩])
    (.cond (.t 27) (.seq (.ops [⟨some 29, none, .fa 1 (.t 2)⟩,
      ⟨some 30, none, .ld (.t 29)⟩,
      ⟨some 31, none, .bin .eql (.t 30) (.k (.i .i64 0))⟩,
      ⟨some 32, none, .mv (.t 31)⟩,
      ⟨some 33, (some (32, true)), .fa 2 (.t 2)⟩,
      ⟨some 34, (some (32, true)), .ld (.t 33)⟩,
      ⟨some 35, (some (32, true)), .mv (.t 1)⟩,
      ⟨some 36, (some (32, true)), .bin .sub (.t 35) (.k (.i .i64 1))⟩,
      ⟨some 37, (some (32, true)), .call (.k (.fn n_spec_l1In [] [])) [.t 34, .k (.i .i64 0), .t 36]⟩,
      ⟨some 38, none, .pick (.t 32) (.t 37) (.k (.b false))⟩,
      ⟨some 39, none, .mv (.t 38)⟩,
      ⟨some 40, (some (39, true)), .fa 3 (.t 2)⟩,
      ⟨some 41, (some (39, true)), .ld (.t 40)⟩,
      ⟨some 42, (some (39, true)), .mv (.t 1)⟩,
      ⟨some 43, (some (39, true)), .bin .sub (.t 42) (.k (.i .i64 1))⟩,
      ⟨some 44, (some (39, true)), .call (.k (.fn n_spec_l1In [] [])) [.t 41, .k (.i .i64 0), .t 43]⟩,
      ⟨some 45, none, .pick (.t 39) (.t 44) (.k (.b false))⟩,
      ⟨some 46, none, .mv (.t 45)⟩,
      ⟨some 47, (some (46, true)), .fa 4 (.t 2)⟩,
      ⟨some 48, (some (46, true)), .ld (.t 47)⟩,
      ⟨some 49, (some (46, true)), .bin .eql (.t 48) (.k (.i .i64 0))⟩,
      ⟨some 50, none, .pick (.t 46) (.t 49) (.k (.b false))⟩,
      ⟨some 4, none, .mv (.t 50)⟩])
    (.ret))
    (.seq (.ops [⟨some 52, none, .bin .eql (.t 6) (.k (.i .i64 3))⟩,
      ⟨some 51, none, .mv (.t 52)⟩])
    (.cond (.t 51) (.seq (.ops [⟨some 53, none, .fa 1 (.t 2)⟩,
      ⟨some 54, none, .ld (.t 53)⟩,
      ⟨some 55, none, .call (.k (.fn n_spec_l1In [] [])) [.t 54, .k (.i .i64 1), .k (.i .i64 9)]⟩,
      ⟨some 56, none, .mv (.t 55)⟩,
      ⟨some 57, (some (56, true)), .fa 2 (.t 2)⟩,
      ⟨some 58, (some (56, true)), .ld (.t 57)⟩,
      ⟨some 59, (some (56, true)), .mv (.t 1)⟩,
      ⟨some 60, (some (56, true)), .bin .sub (.t 59) (.k (.i .i64 1))⟩,
      ⟨some 61, (some (56, true)), .call (.k (.fn n_spec_l1In [] [])) [.t 58, .k (.i .i64 0), .t 60]⟩,
      ⟨some 62, none, .pick (.t 56) (.t 61) (.k (.b false))⟩,
      ⟨some 63, none, .mv (.t 62)⟩,
      ⟨some 64, (some (63, true)), .fa 3 (.t 2)⟩,
      ⟨some 65, (some (63, true)), .ld (.t 64)⟩,
      ⟨some 66, (some (63, true)), .mv (.t 1)⟩,
      ⟨some 67, (some (63, true)), .bin .sub (.t 66) (.k (.i .i64 1))⟩,
      ⟨some 68, (some (63, true)), .call (.k (.fn n_spec_l1In [] [])) [.t 65, .k (.i .i64 0), .t 67]⟩,
      ⟨some 69, none, .pick (.t 63) (.t 68) (.k (.b false))⟩,
      ⟨some 70, none, .mv (.t 69)⟩,
      ⟨some 71, (some (70, true)), .fa 4 (.t 2)⟩,
      ⟨some 72, (some (70, true)), .ld (.t 71)⟩,
      ⟨some 73, (some (70, true)), .bin .eql (.t 72) (.k (.i .i64 0))⟩,
      ⟨some 74, none, .pick (.t 70) (.t 73) (.k (.b false))⟩,
      ⟨some 4, none, .mv (.t 74)⟩])
    (.ret))
    (.seq (.ops [⟨some 76, none, .bin .eql (.t 6) (.k (.i .i64 4))⟩,
      ⟨some 75, none, .mv (.t 76)⟩])
    (.cond (.t 75) (.seq (.ops [⟨some 77, none, .fa 1 (.t 2)⟩,
      ⟨some 78, none, .ld (.t 77)⟩,
      ⟨some 79, none, .call (.k (.fn n_spec_l1In [] [])) [.t 78, .k (.i .i64 1), .k (.i .i64 9)]⟩,
      ⟨some 80, none, .mv (.t 79)⟩,
      ⟨some 81, (some (80, true)), .fa 2 (.t 2)⟩,
      ⟨some 82, (some (80, true)), .ld (.t 81)⟩,
      ⟨some 83, (some (80, true)), .mv (.t 1)⟩,
      ⟨some 84, (some (80, true)), .bin .sub (.t 83) (.k (.i .i64 1))⟩,
      ⟨some 85, (some (80, true)), .call (.k (.fn n_spec_l1In [] [])) [.t 82, .k (.i .i64 0), .t 84]⟩,
      ⟨some 86, none, .pick (.t 80) (.t 85) (.k (.b false))⟩,
      ⟨some 87, none, .mv (.t 86)⟩,
      ⟨some 88, (some (87, true)), .fa 3 (.t 2)⟩,
      ⟨some 89, (some (87, true)), .ld (.t 88)⟩,
      ⟨some 90, (some (87, true)), .bin .eql (.t 89) (.k (.i .i64 0))⟩,
      ⟨some 91, none, .pick (.t 87) (.t 90) (.k (.b false))⟩,
      ⟨some 92, none, .mv (.t 91)⟩,
      ⟨some 93, (some (92, true)), .fa 4 (.t 2)⟩,
      ⟨some 94, (some (92, true)), .ld (.t 93)⟩,
      ⟨some 95, (some (92, true)), .call (.k (.fn n_spec_l1In [] [])) [.t 94, .k (.i .i64 0), .k (.i .i64 4)]⟩,
      ⟨some 96, none, .pick (.t 92) (.t 95) (.k (.b false))⟩,
      ⟨some 4, none, .mv (.t 96)⟩])
    (.ret))
    (.skip)))))))))))
    (.seq (.ops [⟨some 4, none, .mv (.k (.b false))⟩])
    (.ret)))
theorem k_spec_l8Node : chkF Try.prog Try.f82 97 c_spec_l8Node [.t 4] = true := by kernel_rfl
theorem call_spec_l8Node {args : List AV} {σ : List AB} {K : AV → List AB → Prop} (hn : args.length ≤ 97) (hw : wpC Try.prog σ.length 97 c_spec_l8Node (retP σ.length [.t 4] K) ⟨initT 0 args, σ⟩) : CallWp Try.prog n_spec_l8Node args σ K := call_fn mixed Try.func82 k_spec_l8Node hn hw
def c_impl_RunProgram_1 : LC := .seq (.ops [⟨some 5, none, .mv (.k (.i .i64 0))⟩])
    (.seq (.seq (.ops [⟨some 7, none, .ld (.t 2)⟩,
      ⟨some 8, none, .len (.t 7)⟩,
      ⟨some 9, none, .bin .eql (.t 8) (.k (.i .i64 0))⟩])
    (.cond (.t 9) (.seq (.ops [⟨some 5, none, .mv (.k (.i .i64 0))⟩])
    (.ret))
    (.skip)))
    (.seq (.ops [⟨some 10, none, .ld (.t 2)⟩,
      ⟨some 11, none, .ia 1 (.t 10) (.k (.i .i64 0))⟩,
      ⟨some 12, none, .ld (.t 11)⟩,
      ⟨some 6, none, .mv (.t 12)⟩])
    (.seq (.ops [⟨some 13, none, .ld (.t 2)⟩,
      ⟨some 14, none, .slc 1 (.t 13) (some (.k (.i .i64 1))) none none⟩,
      ⟨none, none, .st 1 (.t 2) (.t 14)⟩])
    (.seq (.ops [⟨some 15, none, .mv (.t 6)⟩,
      ⟨some 16, none, .mv (.t 1)⟩,
      ⟨some 17, none, .bin .rem (.t 15) (.t 16)⟩,
      ⟨some 18, none, .mv (.t 1)⟩,
      ⟨some 19, none, .bin .add (.t 17) (.t 18)⟩,
      ⟨some 20, none, .mv (.t 1)⟩,
      ⟨some 21, none, .bin .rem (.t 19) (.t 20)⟩,
      ⟨some 5, none, .mv (.t 21)⟩])
    (.ret)))))
theorem k_impl_RunProgram_1 : chkF Try.prog Try.f83 22 c_impl_RunProgram_1 [.t 5] = true := by kernel_rfl
theorem call_impl_RunProgram_1 {args : List AV} {σ : List AB} {K : AV → List AB → Prop} (hn : args.length ≤ 22) (hw : wpC Try.prog σ.length 22 c_impl_RunProgram_1 (retP σ.length [.t 5] K) ⟨initT 0 args, σ⟩) : CallWp Try.prog n_impl_RunProgram_1 args σ K := call_fn mixed Try.func83 k_impl_RunProgram_1 hn hw
def c_spec_l20Rd_pick : LC := .seq (.ops [⟨some 4, none, .mv (.k (.i .i64 0))⟩])
    (.seq (.ops [⟨some 7, none, .mv (.t 0)⟩,
      ⟨some 8, none, .mv (.t 0)⟩,
      ⟨some 9, none, .nilc (.t 8)⟩,
      ⟨some 10, none, .fa 1 (.t 9)⟩,
      ⟨some 11, none, .ld (.t 10)⟩,
      ⟨some 12, none, .bin .add (.t 11) (.k (.i .i64 1))⟩,
      ⟨some 13, none, .nilc (.t 7)⟩,
      ⟨some 14, none, .fa 1 (.t 13)⟩,
      ⟨none, none, .st 1 (.t 14) (.t 12)⟩])
    (.seq (.seq (.ops [⟨some 15, none, .mv (.t 1)⟩,
      ⟨some 16, none, .bin .lss (.t 15) (.k (.i .i64 1))⟩,
      ⟨some 17, none, .mv (.t 16)⟩,
      ⟨some 18, (some (17, false)), .mv (.t 0)⟩,
      ⟨some 19, (some (17, false)), .nilc (.t 18)⟩,
      ⟨some 20, (some (17, false)), .fa 0 (.t 19)⟩,
      ⟨some 21, (some (17, false)), .ld (.t 20)⟩,
      ⟨some 22, (some (17, false)), .len (.t 21)⟩,
      ⟨some 23, (some (17, false)), .bin .eql (.t 22) (.k (.i .i64 0))⟩,
      ⟨some 24, none, .pick (.t 17) (.k (.b true)) (.t 23)⟩])
    (.cond (.t 24) (.seq (.ops [⟨some 4, none, .mv (.k (.i .i64 0))⟩])
    (.ret))
    (.skip)))
    (.seq (.ops [⟨some 25, none, .mv (.t 0)⟩,
      ⟨some 26, none, .nilc (.t 25)⟩,
      ⟨some 27, none, .fa 1 (.t 26)⟩,
      ⟨some 28, none, .ld (.t 27)⟩,
      ⟨some 29, none, .bin .sub (.t 28) (.k (.i .i64 1))⟩,
      ⟨some 5, none, .mv (.t 29)⟩])
    (.seq (.seq (.ops [⟨some 30, none, .mv (.t 5)⟩,
      ⟨some 31, none, .mv (.t 0)⟩,
      ⟨some 32, none, .nilc (.t 31)⟩,
      ⟨some 33, none, .fa 0 (.t 32)⟩,
      ⟨some 34, none, .ld (.t 33)⟩,
      ⟨some 35, none, .len (.t 34)⟩,
      ⟨some 36, none, .bin .lss (.t 30) (.t 35)⟩])
    (.cond (.t 36) (.seq (.ops [⟨some 37, none, .mv (.t 0)⟩,
      ⟨some 38, none, .nilc (.t 37)⟩,
      ⟨some 39, none, .fa 0 (.t 38)⟩,
      ⟨some 40, none, .ld (.t 39)⟩,
      ⟨some 41, none, .mv (.t 5)⟩,
      ⟨some 42, none, .ia 1 (.t 40) (.t 41)⟩,
      ⟨some 43, none, .ld (.t 42)⟩,
      ⟨some 44, none, .conv .i64 (.t 43)⟩,
      ⟨some 45, none, .mv (.t 1)⟩,
      ⟨some 46, none, .bin .rem (.t 44) (.t 45)⟩,
      ⟨some 4, none, .mv (.t 46)⟩])
    (.ret))
    (.skip)))
    (.seq (.draw 45 [⟨some 47, none, .mv (.t 0)⟩,
      ⟨some 48, none, .nilc (.t 47)⟩,
      ⟨some 49, none, .fa 0 (.t 48)⟩,
      ⟨some 50, none, .ld (.t 49)⟩,
      ⟨some 51, none, .mv (.t 5)⟩,
      ⟨some 52, none, .mv (.t 0)⟩,
      ⟨some 53, none, .nilc (.t 52)⟩,
      ⟨some 54, none, .fa 0 (.t 53)⟩,
      ⟨some 55, none, .ld (.t 54)⟩,
      ⟨some 56, none, .len (.t 55)⟩,
      ⟨some 57, none, .bin .rem (.t 51) (.t 56)⟩,
      ⟨some 58, none, .ia 1 (.t 50) (.t 57)⟩,
      ⟨some 59, none, .ld (.t 58)⟩,
      ⟨some 60, none, .conv .i64 (.t 59)⟩,
      ⟨some 61, none, .bin .mul (.t 60) (.k (.i .i64 131))⟩,
      ⟨some 62, none, .mv (.t 0)⟩,
      ⟨some 63, none, .nilc (.t 62)⟩,
      ⟨some 64, none, .fa 0 (.t 63)⟩,
      ⟨some 65, none, .ld (.t 64)⟩,
      ⟨some 66, none, .mv (.t 5)⟩,
      ⟨some 67, none, .bin .mul (.t 66) (.k (.i .i64 7))⟩,
      ⟨some 68, none, .bin .add (.t 67) (.k (.i .i64 3))⟩,
      ⟨some 69, none, .mv (.t 0)⟩,
      ⟨some 70, none, .nilc (.t 69)⟩,
      ⟨some 71, none, .fa 0 (.t 70)⟩,
      ⟨some 72, none, .ld (.t 71)⟩,
      ⟨some 73, none, .len (.t 72)⟩,
      ⟨some 74, none, .bin .rem (.t 68) (.t 73)⟩,
      ⟨some 75, none, .ia 1 (.t 65) (.t 74)⟩,
      ⟨some 76, none, .ld (.t 75)⟩,
      ⟨some 77, none, .conv .i64 (.t 76)⟩,
      ⟨some 78, none, .bin .mul (.t 77) (.k (.i .i64 1117))⟩,
      ⟨some 79, none, .bin .add (.t 61) (.t 78)⟩,
      ⟨some 80, none, .mv (.t 5)⟩,
      ⟨some 81, none, .bin .mul (.t 80) (.k (.i .i64 29))⟩,
      ⟨some 82, none, .bin .add (.t 79) (.t 81)⟩,
      ⟨some 83, none, .mv (.t 5)⟩,
      ⟨some 84, none, .mv (.t 0)⟩,
      ⟨some 85, none, .nilc (.t 84)⟩,
      ⟨some 86, none, .fa 0 (.t 85)⟩,
      ⟨some 87, none, .ld (.t 86)⟩,
      ⟨some 88, none, .len (.t 87)⟩,
      ⟨some 89, none, .bin .quo (.t 83) (.t 88)⟩,
      ⟨some 90, none, .bin .mul (.t 89) (.k (.i .i64 53))⟩,
      ⟨some 91, none, .bin .add (.t 82) (.t 90)⟩,
      ⟨some 6, none, .mv (.t 91)⟩])
    (.seq (.ops [⟨some 92, none, .mv (.t 6)⟩,
      ⟨some 93, none, .mv (.t 6)⟩,
      ⟨some 94, none, .bin .quo (.t 93) (.k (.i .i64 64))⟩,
      ⟨some 95, none, .bin .xor (.t 92) (.t 94)⟩,
      ⟨some 6, none, .mv (.t 95)⟩])
    (.seq (.ops [⟨some 96, none, .mv (.t 6)⟩,
      ⟨some 97, none, .mv (.t 1)⟩,
      ⟨some 98, none, .bin .rem (.t 96) (.t 97)⟩,
      ⟨some 4, none, .mv (.t 98)⟩])
    (.ret))))))))
theorem k_spec_l20Rd_pick : chkF Try.prog Try.f84 99 c_spec_l20Rd_pick [.t 4] = true := by kernel_rfl
theorem call_spec_l20Rd_pick {args : List AV} {σ : List AB} {K : AV → List AB → Prop} (hn : args.length ≤ 99) (hw : wpC Try.prog σ.length 99 c_spec_l20Rd_pick (retP σ.length [.t 4] K) ⟨initT 0 args, σ⟩) : CallWp Try.prog n_spec_l20Rd_pick args σ K := call_fn mixed Try.func84 k_spec_l20Rd_pick hn hw
def c_spec_l20Rd_odd : LC := .seq (.ops [⟨some 4, none, .mv (.k (.b false))⟩])
    (.seq (.ops [⟨some 5, none, .mv (.t 1)⟩,
      ⟨some 6, none, .bin .gtr (.t 5) (.k (.i .i64 0))⟩,
      ⟨some 7, none, .mv (.t 6)⟩,
      ⟨some 8, (some (7, true)), .mv (.t 0)⟩,
      ⟨some 9, (some (7, true)), .mv (.t 1)⟩,
      ⟨some 10, (some (7, true)), .call (.k (.fn n_spec_l20Rd_pick [] [])) [.t 8, .t 9]⟩,
      ⟨some 11, (some (7, true)), .mv (.t 1)⟩,
      ⟨some 12, (some (7, true)), .bin .sub (.t 11) (.k (.i .i64 1))⟩,
      ⟨some 13, (some (7, true)), .bin .eql (.t 10) (.t 12)⟩,
      ⟨some 14, none, .pick (.t 7) (.t 13) (.k (.b false))⟩,
      ⟨some 4, none, .mv (.t 14)⟩])
    (.ret))
theorem k_spec_l20Rd_odd : chkF Try.prog Try.f86 15 c_spec_l20Rd_odd [.t 4] = true := by kernel_rfl
theorem call_spec_l20Rd_odd {args : List AV} {σ : List AB} {K : AV → List AB → Prop} (hn : args.length ≤ 15) (hw : wpC Try.prog σ.length 15 c_spec_l20Rd_odd (retP σ.length [.t 4] K) ⟨initT 0 args, σ⟩) : CallWp Try.prog n_spec_l20Rd_odd args σ K := call_fn mixed Try.func86 k_spec_l20Rd_odd hn hw
def c_slices_Clip_int : LC := .seq (.ops [⟨some 2, none, .mv (.k (.sn))⟩])
    (.seq (.ops [⟨some 3, none, .mv (.t 0)⟩,
      ⟨some 4, none, .mv (.t 0)⟩,
      ⟨some 5, none, .len (.t 4)⟩,
      ⟨some 6, none, .mv (.t 0)⟩,
      ⟨some 7, none, .len (.t 6)⟩,
      ⟨some 8, none, .slc 1 (.t 3) none (some (.t 5)) (some (.t 7))⟩,
      ⟨some 2, none, .mv (.t 8)⟩])
    (.ret))
theorem k_slices_Clip_int : chkF Try.prog Try.f109 9 c_slices_Clip_int [.t 2] = true := by kernel_rfl
theorem call_slices_Clip_int {args : List AV} {σ : List AB} {K : AV → List AB → Prop} (hn : args.length ≤ 9) (hw : wpC Try.prog σ.length 9 c_slices_Clip_int (retP σ.length [.t 2] K) ⟨initT 0 args, σ⟩) : CallWp Try.prog n_slices_Clip_int args σ K := call_fn mixed Try.func109 k_slices_Clip_int hn hw
def c_impl_nodeValid : LC := .seq (.ops [⟨some 2, none, .box ty_impl_Node (.t 0)⟩,
      ⟨some 4, none, .mv (.k (.b false))⟩])
    (.seq (.ops [⟨some 10, none, .fa 0 (.t 2)⟩,
      ⟨some 11, none, .ld (.t 10)⟩,
      ⟨some 12, none, .build [.i .i64 0, .i .i64 0, .i .i64 0, .i .i64 0, .i .i64 0] [(0, 1, .t 11)]⟩,
      ⟨some 5, none, .alloc ty_impl_Node [.i .i64 0, .i .i64 0, .i .i64 0, .i .i64 0, .i .i64 0]⟩,
      ⟨none, none, .st 5 (.t 5) (.t 12)⟩])
    (.seq (.draw 11 [⟨some 13, none, .fa 2 (.t 2)⟩,
      ⟨some 14, none, .ld (.t 13)⟩,
      ⟨some 15, none, .mv (.t 1)⟩,
      ⟨some 16, none, .bin .sub (.t 15) (.k (.i .i64 1))⟩,
      ⟨some 17, none, .call (.k (.fn n_impl_in [] [])) [.t 14, .k (.i .i64 0), .t 16]⟩,
      ⟨some 18, none, .fa 3 (.t 2)⟩,
      ⟨some 19, none, .ld (.t 18)⟩,
      ⟨some 20, none, .mv (.t 1)⟩,
      ⟨some 21, none, .bin .sub (.t 20) (.k (.i .i64 1))⟩,
      ⟨some 22, none, .call (.k (.fn n_impl_in [] [])) [.t 19, .k (.i .i64 0), .t 21]⟩,
      ⟨some 6, none, .mv (.t 17)⟩,
      ⟨some 7, none, .mv (.t 22)⟩])
    (.seq (.ops [⟨some 23, none, .fa 1 (.t 2)⟩,
      ⟨some 24, none, .ld (.t 23)⟩,
      ⟨some 25, none, .call (.k (.fn n_impl_in [] [])) [.t 24, .k (.i .i64 1), .k (.i .i64 9)]⟩,
      ⟨some 8, none, .mv (.t 25)⟩])
    (.seq (.ops [⟨some 9, none, .mv (.k (.b false))⟩])
    (.join (.seq (.ops [⟨some 26, none, .fa 0 (.t 2)⟩,
      ⟨some 27, none, .ld (.t 26)⟩])
    (.block 0 (.seq (.ops [⟨some 29, none, .bin .eql (.t 27) (.k (.i .i64 1))⟩,
      ⟨some 28, none, .mv (.t 29)⟩])
    (.cond (.t 28) (.ops [⟨some 30, none, .fa 1 (.t 2)⟩,
      ⟨some 31, none, .ld (.t 30)⟩,
      ⟨some 32, none, .mv (.t 8)⟩,
      ⟨some 33, none, .fa 1 (.t 5)⟩,
      ⟨none, none, .st 1 (.t 33) (.t 31)⟩,
      ⟨some 9, none, .mv (.t 32)⟩])
    (.seq (.ops [⟨some 35, none, .bin .eql (.t 27) (.k (.i .i64 2))⟩,
      ⟨some 34, none, .mv (.t 35)⟩])
    (.cond (.t 34) (.plan [0, 1, 2, 3, 4, 5, 6, 7, 8] [⟨some 36, none, .fa 2 (.t 2)⟩,
      ⟨some 37, none, .ld (.t 36)⟩,
      ⟨some 38, none, .fa 3 (.t 2)⟩,
      ⟨some 39, none, .ld (.t 38)⟩,
      ⟨some 40, none, .mv (.t 6)⟩,
      ⟨some 41, none, .mv (.t 40)⟩,
      ⟨some 42, (some (41, true)), .mv (.t 7)⟩,
      ⟨some 43, none, .pick (.t 41) (.t 42) (.k (.b false))⟩,
      ⟨some 44, none, .fa 2 (.t 5)⟩]
      (.one 9 ⟨none, none, .st 1 (.t 44) (.t 37)⟩ [(39, none, 38)] [10]
        [⟨some 45, none, .fa 3 (.t 5)⟩]
      (.one 11 ⟨none, none, .st 1 (.t 45) (.t 39)⟩ [] [12]
        [⟨some 9, none, .mv (.t 43)⟩]
      .fin)))
    (.seq (.ops [⟨some 47, none, .bin .eql (.t 27) (.k (.i .i64 3))⟩,
      ⟨some 46, none, .mv (.t 47)⟩])
    (.cond (.t 46) (.plan [0, 1, 2, 3, 4, 5, 6, 7, 8, 9, 10, 11, 12, 13] [⟨some 48, none, .fa 1 (.t 2)⟩,
      ⟨some 49, none, .ld (.t 48)⟩,
      ⟨some 50, none, .fa 2 (.t 2)⟩,
      ⟨some 51, none, .ld (.t 50)⟩,
      ⟨some 52, none, .fa 3 (.t 2)⟩,
      ⟨some 53, none, .ld (.t 52)⟩,
      ⟨some 54, none, .mv (.t 8)⟩,
      ⟨some 55, none, .mv (.t 54)⟩,
      ⟨some 56, (some (55, true)), .mv (.t 6)⟩,
      ⟨some 57, none, .pick (.t 55) (.t 56) (.k (.b false))⟩,
      ⟨some 58, none, .mv (.t 57)⟩,
      ⟨some 59, (some (58, true)), .mv (.t 7)⟩,
      ⟨some 60, none, .pick (.t 58) (.t 59) (.k (.b false))⟩,
      ⟨some 61, none, .fa 1 (.t 5)⟩]
      (.one 14 ⟨none, none, .st 1 (.t 61) (.t 49)⟩ [(51, none, 50), (53, none, 52)] [15]
        [⟨some 62, none, .fa 2 (.t 5)⟩]
      (.one 16 ⟨none, none, .st 1 (.t 62) (.t 51)⟩ [(53, none, 52)] [17]
        [⟨some 63, none, .fa 3 (.t 5)⟩]
      (.one 18 ⟨none, none, .st 1 (.t 63) (.t 53)⟩ [] [19]
        [⟨some 9, none, .mv (.t 60)⟩]
      .fin))))
    (.seq (.ops [⟨some 65, none, .bin .eql (.t 27) (.k (.i .i64 4))⟩,
      ⟨some 64, none, .mv (.t 65)⟩])
    (.cond (.t 64) (.plan [0, 1, 2, 3, 4, 5, 6, 7, 8, 9, 10, 11, 15] [⟨some 66, none, .fa 1 (.t 2)⟩,
      ⟨some 67, none, .ld (.t 66)⟩,
      ⟨some 68, none, .fa 2 (.t 2)⟩,
      ⟨some 69, none, .ld (.t 68)⟩,
      ⟨some 70, none, .fa 4 (.t 2)⟩,
      ⟨some 71, none, .ld (.t 70)⟩,
      ⟨some 72, none, .mv (.t 8)⟩,
      ⟨some 73, none, .mv (.t 72)⟩,
      ⟨some 74, (some (73, true)), .mv (.t 6)⟩,
      ⟨some 75, none, .pick (.t 73) (.t 74) (.k (.b false))⟩,
      ⟨some 76, none, .mv (.t 75)⟩,
      ⟨some 77, (some (76, true)), .fa 4 (.t 2)⟩,
      ⟨some 81, none, .fa 1 (.t 5)⟩]
      (.one 12 ⟨some 78, (some (76, true)), .ld (.t 77)⟩ [(67, none, 66), (69, none, 68), (71, none, 70)] []
        []
      (.one 13 ⟨some 79, (some (76, true)), .call (.k (.fn n_impl_in [] [])) [.t 78, .k (.i .i64 0), .k (.i .i64 4)]⟩ [(67, none, 66), (69, none, 68), (71, none, 70)] [14]
        [⟨some 80, none, .pick (.t 76) (.t 79) (.k (.b false))⟩]
      (.one 16 ⟨none, none, .st 1 (.t 81) (.t 67)⟩ [(69, none, 68), (71, none, 70)] [17]
        [⟨some 82, none, .fa 2 (.t 5)⟩]
      (.one 18 ⟨none, none, .st 1 (.t 82) (.t 69)⟩ [(71, none, 70)] [19]
        [⟨some 83, none, .fa 4 (.t 5)⟩]
      (.one 20 ⟨none, none, .st 1 (.t 83) (.t 71)⟩ [] [21]
        [⟨some 9, none, .mv (.t 80)⟩]
      .fin))))))
    (.skip)))))))))))
    (.seq (.ops [⟨some 84, none, .mv (.t 9)⟩,
      ⟨some 85, none, .mv (.t 84)⟩,
      ⟨some 86, (some (85, true)), .ldn 5 (.t 5)⟩,
      ⟨some 87, (some (85, true)), .ldn 5 (.t 2)⟩,
      ⟨some 88, (some (85, true)), .aeq false [true, true, true, true, true] (.t 86) (.t 87)⟩,
      ⟨some 89, none, .pick (.t 85) (.t 88) (.k (.b false))⟩,
      ⟨some 4, none, .mv (.t 89)⟩])
    (.ret)))))))
theorem k_impl_nodeValid : chkF Try.prog Try.f110 90 c_impl_nodeValid [.t 4] = true := by kernel_rfl
theorem call_impl_nodeValid {args : List AV} {σ : List AB} {K : AV → List AB → Prop} (hn : args.length ≤ 90) (hw : wpC Try.prog σ.length 90 c_impl_nodeValid (retP σ.length [.t 4] K) ⟨initT 0 args, σ⟩) : CallWp Try.prog n_impl_nodeValid args σ K := call_fn mixed Try.func110 k_impl_nodeValid hn hw
def c_slices_Clone_int : LC := .seq (.ops [⟨some 2, none, .mv (.k (.sn))⟩])
    (.seq (.seq (.ops [⟨some 3, none, .mv (.t 0)⟩,
      ⟨some 4, none, .snil (.t 3)⟩])
    (.cond (.t 4) (.seq (.ops [⟨some 2, none, .mv (.k (.sn))⟩])
    (.ret))
    (.skip)))
    (.seq (.ops [⟨some 5, none, .bsl ty_int [.i .i64 0] 0 []⟩,
      ⟨some 6, none, .mv (.t 0)⟩,
      ⟨some 7, none, .appf ty_int 1 8 (.t 5) (.t 6)⟩,
      ⟨some 2, none, .mv (.t 7)⟩])
    (.ret)))
theorem k_slices_Clone_int : chkF Try.prog Try.f111 8 c_slices_Clone_int [.t 2] = true := by kernel_rfl
theorem call_slices_Clone_int {args : List AV} {σ : List AB} {K : AV → List AB → Prop} (hn : args.length ≤ 8) (hw : wpC Try.prog σ.length 8 c_slices_Clone_int (retP σ.length [.t 2] K) ⟨initT 0 args, σ⟩) : CallWp Try.prog n_slices_Clone_int args σ K := call_fn mixed Try.func111 k_slices_Clone_int hn hw
end Go.Proofs.Ytfngcejaphhmmaa
