import Derived.Test.YtmphblbpofnpaaaProg
import Derived.Test.YtmphblbpofnpaaaLowA
import Derived.KernelRfl
namespace Go.Proofs.Ytmphblbpofnpaaa
open Go.Abs
set_option maxRecDepth 100000
def c_spec_DeadlineScale : LC := .seq (.ops [⟨some 2, none, .alloc ty_impl_Fraction [.i .i64 0, .i .i64 0]⟩,
      ⟨some 3, none, .mv (.k (.b false))⟩])
    (.seq (.seq (.ops [⟨some 9, none, .mv (.t 0)⟩,
      ⟨some 10, none, .call (.k (.fn n_spec_MixedValid [] [])) [.t 9]⟩,
      ⟨some 11, none, .not (.t 10)⟩])
    (.cond (.t 11) (.seq (.ops [⟨some 12, none, .build [.i .i64 0, .i .i64 0] []⟩,
      ⟨none, none, .st 2 (.t 2) (.t 12)⟩,
      ⟨some 3, none, .mv (.k (.b false))⟩])
    (.ret))
    (.skip)))
    (.seq (.ops [⟨some 14, none, .mv (.t 0)⟩,
      ⟨some 15, none, .call (.k (.fn n_spec_l15Sums [] [])) [.t 14]⟩,
      ⟨some 13, none, .mv (.t 15)⟩,
      ⟨some 16, none, .ext 0 (.t 13)⟩,
      ⟨some 17, none, .ext 1 (.t 13)⟩,
      ⟨some 18, none, .ext 2 (.t 13)⟩,
      ⟨some 19, none, .ext 3 (.t 13)⟩,
      ⟨some 4, none, .mv (.t 16)⟩,
      ⟨some 5, none, .mv (.t 17)⟩,
      ⟨some 6, none, .mv (.t 18)⟩,
      ⟨some 7, none, .mv (.t 19)⟩])
    (.seq (.seq (.ops [⟨some 20, none, .mv (.t 4)⟩,
      ⟨some 21, none, .mv (.t 6)⟩,
      ⟨some 22, none, .bin .add (.t 20) (.t 21)⟩,
      ⟨some 23, none, .mv (.t 7)⟩,
      ⟨some 24, none, .bin .leq (.t 22) (.t 23)⟩])
    (.cond (.t 24) (.seq (.ops [⟨some 25, none, .build [.i .i64 0, .i .i64 0] [(0, 1, .k (.i .i64 1)), (1, 1, .k (.i .i64 1))]⟩,
      ⟨none, none, .st 2 (.t 2) (.t 25)⟩,
      ⟨some 3, none, .mv (.k (.b true))⟩])
    (.ret))
    (.skip)))
    (.seq (.seq (.ops [⟨some 26, none, .mv (.t 4)⟩,
      ⟨some 27, none, .mv (.t 7)⟩,
      ⟨some 28, none, .bin .geq (.t 26) (.t 27)⟩,
      ⟨some 29, none, .mv (.t 28)⟩,
      ⟨some 30, (some (29, false)), .mv (.t 5)⟩,
      ⟨some 31, (some (29, false)), .bin .eql (.t 30) (.k (.i .i64 0))⟩,
      ⟨some 32, none, .pick (.t 29) (.k (.b true)) (.t 31)⟩,
      ⟨some 33, none, .mv (.t 32)⟩,
      ⟨some 34, (some (33, false)), .mv (.t 5)⟩,
      ⟨some 35, (some (33, false)), .mv (.t 7)⟩,
      ⟨some 36, (some (33, false)), .mv (.t 4)⟩,
      ⟨some 37, (some (33, false)), .bin .sub (.t 35) (.t 36)⟩,
      ⟨some 38, (some (33, false)), .bin .gtr (.t 34) (.t 37)⟩,
      ⟨some 39, none, .pick (.t 33) (.k (.b true)) (.t 38)⟩,
      ⟨some 40, none, .mv (.t 39)⟩,
      ⟨some 41, (some (40, false)), .mv (.t 5)⟩,
      ⟨some 42, (some (40, false)), .mv (.t 4)⟩,
      ⟨some 43, (some (40, false)), .bin .mul (.t 41) (.t 42)⟩,
      ⟨some 44, (some (40, false)), .mv (.t 6)⟩,
      ⟨some 45, (some (40, false)), .mv (.t 7)⟩,
      ⟨some 46, (some (40, false)), .mv (.t 4)⟩,
      ⟨some 47, (some (40, false)), .bin .sub (.t 45) (.t 46)⟩,
      ⟨some 48, (some (40, false)), .bin .mul (.t 44) (.t 47)⟩,
      ⟨some 49, (some (40, false)), .bin .add (.t 43) (.t 48)⟩,
      ⟨some 50, (some (40, false)), .mv (.t 7)⟩,
      ⟨some 51, (some (40, false)), .mv (.t 7)⟩,
      ⟨some 52, (some (40, false)), .mv (.t 4)⟩,
      ⟨some 53, (some (40, false)), .bin .sub (.t 51) (.t 52)⟩,
      ⟨some 54, (some (40, false)), .bin .mul (.t 50) (.t 53)⟩,
      ⟨some 55, (some (40, false)), .bin .gtr (.t 49) (.t 54)⟩,
      ⟨some 56, none, .pick (.t 40) (.k (.b true)) (.t 55)⟩])
    (.cond (.t 56) (.seq (.ops [⟨some 57, none, .build [.i .i64 0, .i .i64 0] []⟩,
      ⟨none, none, .st 2 (.t 2) (.t 57)⟩,
      ⟨some 3, none, .mv (.k (.b false))⟩])
    (.ret))
    (.skip)))
    (.seq (.ops [⟨some 58, none, .mv (.t 7)⟩,
      ⟨some 59, none, .mv (.t 4)⟩,
      ⟨some 60, none, .bin .sub (.t 58) (.t 59)⟩,
      ⟨some 61, none, .mv (.t 5)⟩,
      ⟨some 62, none, .call (.k (.fn n_spec_l1Gcd [] [])) [.t 60, .t 61]⟩,
      ⟨some 8, none, .mv (.t 62)⟩])
    (.seq (.plan [0, 1, 2, 3, 4, 5, 6, 7, 8] [⟨some 63, none, .mv (.t 5)⟩,
      ⟨some 64, none, .mv (.t 8)⟩,
      ⟨some 65, none, .bin .quo (.t 63) (.t 64)⟩,
      ⟨some 66, none, .mv (.t 7)⟩,
      ⟨some 67, none, .mv (.t 4)⟩,
      ⟨some 68, none, .bin .sub (.t 66) (.t 67)⟩,
      ⟨some 69, none, .mv (.t 8)⟩,
      ⟨some 70, none, .bin .quo (.t 68) (.t 69)⟩,
      ⟨some 71, none, .build [.i .i64 0, .i .i64 0] [(0, 1, .t 65), (1, 1, .t 70)]⟩]
      (.one 9 ⟨none, none, .st 2 (.t 2) (.t 71)⟩ [] [10]
        [⟨some 3, none, .mv (.k (.b true))⟩]
      .fin))
    (.ret)))))))
theorem k_spec_DeadlineScale : chkF Try.prog Try.f51 72 c_spec_DeadlineScale [.c 2 (some 2), .t 3] = true := by kernel_rfl
theorem call_spec_DeadlineScale {args : List AV} {σ : List AB} {K : AV → List AB → Prop} (hn : args.length ≤ 72) (hw : wpC Try.prog σ.length 72 c_spec_DeadlineScale (retP σ.length [.c 2 (some 2), .t 3] K) ⟨initT 0 args, σ⟩) : CallWp Try.prog n_spec_DeadlineScale args σ K := call_fn mixed Try.func51 k_spec_DeadlineScale hn hw
def l0_spec_MixedLegal : LC := .seq (.seq (.ops [⟨some 37, none, .mv (.t 8)⟩,
      ⟨some 38, none, .mv (.t 7)⟩,
      ⟨some 39, none, .len (.t 38)⟩,
      ⟨some 40, none, .bin .lss (.t 37) (.t 39)⟩])
    (.cond (.t 40) (.skip)
    (.exit 2)))
    (.seq (.block 3 (.seq (.ops [⟨some 43, none, .mv (.t 7)⟩,
      ⟨some 44, none, .mv (.t 8)⟩,
      ⟨some 45, none, .ia 4 (.t 43) (.t 44)⟩,
      ⟨some 46, none, .fa 0 (.t 45)⟩,
      ⟨some 47, none, .ld (.t 46)⟩,
      ⟨some 9, none, .mv (.t 47)⟩])
    (.seq (.seq (.draw 20 [⟨some 48, none, .mv (.t 9)⟩,
      ⟨some 49, none, .mv (.t 0)⟩,
      ⟨some 50, none, .len (.t 49)⟩,
      ⟨some 51, none, .bin .sub (.t 50) (.k (.i .i64 1))⟩,
      ⟨some 52, none, .call (.k (.fn n_spec_l1In [] [])) [.t 48, .k (.i .i64 0), .t 51]⟩,
      ⟨some 53, none, .not (.t 52)⟩,
      ⟨some 54, none, .mv (.t 53)⟩,
      ⟨some 55, (some (54, false)), .mv (.t 7)⟩,
      ⟨some 56, (some (54, false)), .mv (.t 8)⟩,
      ⟨some 57, (some (54, false)), .ia 4 (.t 55) (.t 56)⟩,
      ⟨some 58, (some (54, false)), .fa 3 (.t 57)⟩,
      ⟨some 59, (some (54, false)), .ld (.t 58)⟩,
      ⟨some 60, (some (54, false)), .mv (.t 0)⟩,
      ⟨some 61, (some (54, false)), .mv (.t 9)⟩,
      ⟨some 62, (some (54, false)), .ia 4 (.t 60) (.t 61)⟩,
      ⟨some 63, (some (54, false)), .fa 1 (.t 62)⟩,
      ⟨some 64, (some (54, false)), .ld (.t 63)⟩,
      ⟨some 65, (some (54, false)), .call (.k (.fn n_spec_l1In [] [])) [.t 59, .k (.i .i64 1), .t 64]⟩,
      ⟨some 66, (some (54, false)), .not (.t 65)⟩,
      ⟨some 67, none, .pick (.t 54) (.k (.b true)) (.t 66)⟩])
    (.cond (.t 67) (.seq (.ops [⟨some 4, none, .mv (.k (.b false))⟩])
    (.ret))
    (.skip)))
    (.ops [⟨some 68, none, .mv (.t 7)⟩,
      ⟨some 69, none, .mv (.t 8)⟩,
      ⟨some 70, none, .ia 4 (.t 68) (.t 69)⟩,
      ⟨some 71, none, .fa 3 (.t 70)⟩,
      ⟨none, none, .st 1 (.t 71) (.k (.i .i64 1))⟩]))))
    (.ops [⟨some 41, none, .mv (.t 8)⟩,
      ⟨some 42, none, .bin .add (.t 41) (.k (.i .i64 1))⟩,
      ⟨some 8, none, .mv (.t 42)⟩]))
def l1_spec_MixedLegal : LC := .seq (.seq (.ops [⟨some 14, none, .mv (.t 6)⟩,
      ⟨some 15, none, .mv (.t 0)⟩,
      ⟨some 16, none, .len (.t 15)⟩,
      ⟨some 17, none, .bin .lss (.t 14) (.t 16)⟩])
    (.cond (.t 17) (.skip)
    (.exit 0)))
    (.seq (.block 1 (.plan [0, 1, 2, 3, 4, 5, 6, 7, 8, 9, 10, 11] [⟨some 20, none, .mv (.t 5)⟩,
      ⟨some 21, none, .mv (.t 0)⟩,
      ⟨some 22, none, .mv (.t 6)⟩,
      ⟨some 23, none, .ia 4 (.t 21) (.t 22)⟩,
      ⟨some 24, none, .fa 2 (.t 23)⟩,
      ⟨some 25, none, .ld (.t 24)⟩,
      ⟨some 26, none, .mv (.t 0)⟩,
      ⟨some 27, none, .mv (.t 6)⟩,
      ⟨some 28, none, .ia 4 (.t 26) (.t 27)⟩,
      ⟨some 29, none, .fa 2 (.t 28)⟩,
      ⟨some 30, none, .ld (.t 29)⟩,
      ⟨some 31, none, .build [.i .i64 0, .i .i64 0, .i .i64 0] [(0, 1, .k (.i .i64 1)), (1, 1, .t 25), (2, 1, .t 30)]⟩]
      (.one 12 ⟨some 32, none, .bsl ty_impl_Task [.i .i64 0, .i .i64 0, .i .i64 0] 1 [(0, 3, .t 31)]⟩ [(25, none, 24), (30, none, 29)] []
        []
      (.one 13 ⟨some 33, none, .app ty_impl_Task 3 24 (.t 20) (.t 32)⟩ [(25, none, 24), (30, none, 29)] []
        []
      (.one 14 ⟨some 5, none, .mv (.t 33)⟩ [] []
        []
      .fin)))))
    (.ops [⟨some 18, none, .mv (.t 6)⟩,
      ⟨some 19, none, .bin .add (.t 18) (.k (.i .i64 1))⟩,
      ⟨some 6, none, .mv (.t 19)⟩]))
def c_spec_MixedLegal : LC := .seq (.ops [⟨some 4, none, .mv (.k (.b false))⟩])
    (.seq (.ops [⟨some 10, none, .bsl ty_impl_Task [.i .i64 0, .i .i64 0, .i .i64 0] 0 []⟩,
      ⟨some 5, none, .mv (.t 10)⟩])
    (.seq (.seq (.ops [⟨some 11, none, .mv (.t 0)⟩,
      ⟨some 12, none, .call (.k (.fn n_spec_MixedValid [] [])) [.t 11]⟩,
      ⟨some 13, none, .not (.t 12)⟩])
    (.cond (.t 13) (.seq (.ops [⟨some 4, none, .mv (.k (.b false))⟩])
    (.ret))
    (.skip)))
    (.seq (.seq (.ops [⟨some 6, none, .mv (.k (.i .i64 0))⟩])
    (.block 0 (.loop l1_spec_MixedLegal)))
    (.seq (.ops [⟨some 34, none, .bsl ty_impl_Job [.i .i64 0, .i .i64 0, .i .i64 0, .i .i64 0] 0 []⟩,
      ⟨some 35, none, .mv (.t 1)⟩,
      ⟨some 36, none, .app ty_impl_Job 4 32 (.t 34) (.t 35)⟩,
      ⟨some 7, none, .mv (.t 36)⟩])
    (.seq (.seq (.ops [⟨some 8, none, .mv (.k (.i .i64 0))⟩])
    (.block 2 (.loop l0_spec_MixedLegal)))
    (.seq (.ops [⟨some 72, none, .mv (.t 5)⟩,
      ⟨some 73, none, .mv (.t 7)⟩,
      ⟨some 74, none, .call (.k (.fn n_spec_JobsLegal [] [])) [.t 72, .t 73]⟩,
      ⟨some 4, none, .mv (.t 74)⟩])
    (.ret)))))))
theorem k_spec_MixedLegal : chkF Try.prog Try.f52 75 c_spec_MixedLegal [.t 4] = true := by kernel_rfl
theorem call_spec_MixedLegal {args : List AV} {σ : List AB} {K : AV → List AB → Prop} (hn : args.length ≤ 75) (hw : wpC Try.prog σ.length 75 c_spec_MixedLegal (retP σ.length [.t 4] K) ⟨initT 0 args, σ⟩) : CallWp Try.prog n_spec_MixedLegal args σ K := call_fn mixed Try.func52 k_spec_MixedLegal hn hw
def l0_spec_l15Best : LC := .seq (.seq (.ops [⟨some 15, none, .mv (.t 14)⟩,
      ⟨some 16, none, .mv (.t 1)⟩,
      ⟨some 17, none, .len (.t 16)⟩,
      ⟨some 18, none, .bin .lss (.t 15) (.t 17)⟩])
    (.cond (.t 18) (.skip)
    (.exit 0)))
    (.seq (.block 1 (.seq (.seq (.ops [⟨some 21, none, .mv (.t 1)⟩,
      ⟨some 22, none, .mv (.t 14)⟩,
      ⟨some 23, none, .ia 4 (.t 21) (.t 22)⟩,
      ⟨some 24, none, .fa 1 (.t 23)⟩,
      ⟨some 25, none, .ld (.t 24)⟩,
      ⟨some 26, none, .mv (.t 5)⟩,
      ⟨some 27, none, .bin .gtr (.t 25) (.t 26)⟩,
      ⟨some 28, none, .mv (.t 27)⟩,
      ⟨some 29, (some (28, false)), .mv (.t 2)⟩,
      ⟨some 30, (some (28, false)), .mv (.t 14)⟩,
      ⟨some 31, (some (28, false)), .ia 1 (.t 29) (.t 30)⟩,
      ⟨some 32, (some (28, false)), .ld (.t 31)⟩,
      ⟨some 33, (some (28, false)), .bin .eql (.t 32) (.k (.i .i64 0))⟩,
      ⟨some 34, none, .pick (.t 28) (.k (.b true)) (.t 33)⟩,
      ⟨some 35, none, .mv (.t 34)⟩,
      ⟨some 36, (some (35, false)), .mv (.t 4)⟩,
      ⟨some 37, (some (35, false)), .mv (.t 36)⟩,
      ⟨some 38, (some (37, true)), .mv (.t 0)⟩,
      ⟨some 39, (some (37, true)), .mv (.t 1)⟩,
      ⟨some 40, (some (37, true)), .mv (.t 14)⟩,
      ⟨some 41, (some (37, true)), .ia 4 (.t 39) (.t 40)⟩,
      ⟨some 42, (some (37, true)), .fa 0 (.t 41)⟩,
      ⟨some 43, (some (37, true)), .ld (.t 42)⟩,
      ⟨some 44, (some (37, true)), .ia 4 (.t 38) (.t 43)⟩,
      ⟨some 45, (some (37, true)), .fa 3 (.t 44)⟩,
      ⟨some 46, (some (37, true)), .ld (.t 45)⟩,
      ⟨some 47, (some (37, true)), .not (.t 46)⟩,
      ⟨some 48, (some (35, false)), .pick (.t 37) (.t 47) (.k (.b false))⟩,
      ⟨some 49, none, .pick (.t 35) (.k (.b true)) (.t 48)⟩])
    (.cond (.t 49) (.exit 1)
    (.skip)))
    (.seq (.draw 21 [⟨some 50, none, .mv (.t 13)⟩,
      ⟨some 51, none, .bin .lss (.t 50) (.k (.i .i64 0))⟩,
      ⟨some 52, none, .mv (.t 51)⟩,
      ⟨some 53, (some (52, false)), .mv (.t 0)⟩,
      ⟨some 54, (some (52, false)), .mv (.t 1)⟩,
      ⟨some 55, (some (52, false)), .mv (.t 14)⟩,
      ⟨some 56, (some (52, false)), .ia 4 (.t 54) (.t 55)⟩,
      ⟨some 57, (some (52, false)), .ldn 4 (.t 56)⟩,
      ⟨some 58, (some (52, false)), .ldn 2 (.t 9)⟩,
      ⟨some 59, (some (52, false)), .mv (.t 4)⟩,
      ⟨some 60, (some (52, false)), .call (.k (.fn n_spec_l15Key [] [])) [.t 53, .t 57, .t 58, .t 59]⟩,
      ⟨some 61, (some (52, false)), .mv (.t 0)⟩,
      ⟨some 62, (some (52, false)), .mv (.t 1)⟩,
      ⟨some 63, (some (52, false)), .mv (.t 13)⟩,
      ⟨some 64, (some (52, false)), .ia 4 (.t 62) (.t 63)⟩,
      ⟨some 65, (some (52, false)), .ldn 4 (.t 64)⟩,
      ⟨some 66, (some (52, false)), .ldn 2 (.t 9)⟩,
      ⟨some 67, (some (52, false)), .mv (.t 4)⟩,
      ⟨some 68, (some (52, false)), .call (.k (.fn n_spec_l15Key [] [])) [.t 61, .t 65, .t 66, .t 67]⟩,
      ⟨some 69, (some (52, false)), .bin .lss (.t 60) (.t 68)⟩,
      ⟨some 70, none, .pick (.t 52) (.k (.b true)) (.t 69)⟩])
    (.cond (.t 70) (.ops [⟨some 71, none, .mv (.t 14)⟩,
      ⟨some 13, none, .mv (.t 71)⟩])
    (.skip)))))
    (.ops [⟨some 19, none, .mv (.t 14)⟩,
      ⟨some 20, none, .bin .add (.t 19) (.k (.i .i64 1))⟩,
      ⟨some 14, none, .mv (.t 20)⟩]))
def c_spec_l15Best : LC := .seq (.ops [⟨some 9, none, .box ty_impl_Fraction (.t 3)⟩,
      ⟨some 12, none, .mv (.k (.i .i64 0))⟩])
    (.seq (.ops [⟨some 13, none, .mv (.k (.i .i64 (-1)))⟩])
    (.seq (.seq (.ops [⟨some 14, none, .mv (.k (.i .i64 0))⟩])
    (.block 0 (.loop l0_spec_l15Best)))
    (.seq (.ops [⟨some 72, none, .mv (.t 13)⟩,
      ⟨some 12, none, .mv (.t 72)⟩])
    (.ret))))
theorem k_spec_l15Best : chkF Try.prog Try.f53 73 c_spec_l15Best [.t 12] = true := by kernel_rfl
theorem call_spec_l15Best {args : List AV} {σ : List AB} {K : AV → List AB → Prop} (hn : args.length ≤ 73) (hw : wpC Try.prog σ.length 73 c_spec_l15Best (retP σ.length [.t 12] K) ⟨initT 0 args, σ⟩) : CallWp Try.prog n_spec_l15Best args σ K := call_fn mixed Try.func53 k_spec_l15Best hn hw
def c_impl_TaskValid : LC := .seq (.ops [⟨some 1, none, .box ty_impl_Task (.t 0)⟩,
      ⟨some 2, none, .mv (.k (.b false))⟩])
    (.seq (.ops [⟨some 3, none, .fa 0 (.t 1)⟩,
      ⟨some 4, none, .ld (.t 3)⟩,
      ⟨some 5, none, .call (.k (.fn n_impl_in [] [])) [.t 4, .k (.i .i64 1), .k (.i .i64 8)]⟩,
      ⟨some 6, none, .mv (.t 5)⟩,
      ⟨some 7, (some (6, true)), .fa 1 (.t 1)⟩,
      ⟨some 8, (some (6, true)), .ld (.t 7)⟩,
      ⟨some 9, (some (6, true)), .fa 0 (.t 1)⟩,
      ⟨some 10, (some (6, true)), .ld (.t 9)⟩,
      ⟨some 11, (some (6, true)), .fa 2 (.t 1)⟩,
      ⟨some 12, (some (6, true)), .ld (.t 11)⟩,
      ⟨some 13, (some (6, true)), .call (.k (.fn n_impl_in [] [])) [.t 8, .t 10, .t 12]⟩,
      ⟨some 14, none, .pick (.t 6) (.t 13) (.k (.b false))⟩,
      ⟨some 15, none, .mv (.t 14)⟩,
      ⟨some 16, (some (15, true)), .fa 2 (.t 1)⟩,
      ⟨some 17, (some (15, true)), .ld (.t 16)⟩,
      ⟨some 18, (some (15, true)), .bin .leq (.t 17) (.k (.i .i64 12))⟩,
      ⟨some 19, none, .pick (.t 15) (.t 18) (.k (.b false))⟩,
      ⟨some 2, none, .mv (.t 19)⟩])
    (.ret))
theorem k_impl_TaskValid : chkF Try.prog Try.f54 20 c_impl_TaskValid [.t 2] = true := by kernel_rfl
theorem call_impl_TaskValid {args : List AV} {σ : List AB} {K : AV → List AB → Prop} (hn : args.length ≤ 20) (hw : wpC Try.prog σ.length 20 c_impl_TaskValid (retP σ.length [.t 2] K) ⟨initT 0 args, σ⟩) : CallWp Try.prog n_impl_TaskValid args σ K := call_fn mixed Try.func54 k_impl_TaskValid hn hw
def l0_impl_missed : LC := .seq (.ops [⟨some 16, none, .bin .lss (.t 15) (.t 14)⟩])
    (.seq (.cond (.t 16) (.skip)
    (.exit 0))
    (.seq (.block 1 (.seq (.ops [⟨some 17, none, .mv (.t 15)⟩,
      ⟨some 18, none, .ia 4 (.t 13) (.t 15)⟩,
      ⟨some 19, none, .ldn 4 (.t 18)⟩,
      ⟨some 7, none, .alloc ty_impl_Job [.i .i64 0, .i .i64 0, .i .i64 0, .i .i64 0]⟩,
      ⟨some 6, none, .mv (.t 17)⟩,
      ⟨none, none, .st 4 (.t 7) (.t 19)⟩])
    (.seq (.draw 19 [⟨some 20, none, .fa 2 (.t 7)⟩,
      ⟨some 21, none, .ld (.t 20)⟩,
      ⟨some 22, none, .bin .leq (.t 21) (.k (.i .i64 120))⟩,
      ⟨some 23, none, .mv (.t 22)⟩,
      ⟨some 24, (some (23, true)), .mv (.t 1)⟩,
      ⟨some 25, (some (23, true)), .mv (.t 6)⟩,
      ⟨some 26, (some (23, true)), .ia 1 (.t 24) (.t 25)⟩,
      ⟨some 27, (some (23, true)), .ld (.t 26)⟩,
      ⟨some 28, (some (23, true)), .bin .lss (.t 27) (.k (.i .i64 0))⟩,
      ⟨some 29, (some (23, true)), .mv (.t 28)⟩,
      ⟨some 30, (some (29, false)), .mv (.t 1)⟩,
      ⟨some 31, (some (29, false)), .mv (.t 6)⟩,
      ⟨some 32, (some (29, false)), .ia 1 (.t 30) (.t 31)⟩,
      ⟨some 33, (some (29, false)), .ld (.t 32)⟩,
      ⟨some 34, (some (29, false)), .fa 2 (.t 7)⟩,
      ⟨some 35, (some (29, false)), .ld (.t 34)⟩,
      ⟨some 36, (some (29, false)), .bin .gtr (.t 33) (.t 35)⟩,
      ⟨some 37, (some (23, true)), .pick (.t 29) (.k (.b true)) (.t 36)⟩,
      ⟨some 38, none, .pick (.t 23) (.t 37) (.k (.b false))⟩])
    (.cond (.t 38) (.ops [⟨some 39, none, .mv (.t 5)⟩,
      ⟨some 40, none, .mv (.t 6)⟩,
      ⟨some 41, none, .bsl ty_int [.i .i64 0] 1 [(0, 1, .t 40)]⟩,
      ⟨some 42, none, .app ty_int 1 8 (.t 39) (.t 41)⟩,
      ⟨some 5, none, .mv (.t 42)⟩])
    (.skip)))))
    (.ops [⟨some 43, none, .bin .add (.t 15) (.k (.i .i64 1))⟩,
      ⟨some 15, none, .mv (.t 43)⟩])))
def c_impl_missed : LC := .seq (.ops [⟨some 4, none, .mv (.k (.sn))⟩])
    (.seq (.seq (.ops [⟨some 8, none, .mv (.t 1)⟩,
      ⟨some 9, none, .len (.t 8)⟩,
      ⟨some 10, none, .mv (.t 0)⟩,
      ⟨some 11, none, .len (.t 10)⟩,
      ⟨some 12, none, .bin .neq (.t 9) (.t 11)⟩])
    (.cond (.t 12) (.seq (.ops [⟨some 4, none, .mv (.k (.sn))⟩])
    (.ret))
    (.skip)))
    (.seq (.ops [⟨some 5, none, .mv (.k (.sn))⟩])
    (.seq (.seq (.ops [⟨some 13, none, .mv (.t 0)⟩,
      ⟨some 14, none, .len (.t 13)⟩,
      ⟨some 15, none, .mv (.k (.i .i64 0))⟩])
    (.block 0 (.loop l0_impl_missed)))
    (.seq (.ops [⟨some 44, none, .mv (.t 5)⟩,
      ⟨some 45, none, .call (.k (.fn n_slices_Clip_int [] [])) [.t 44]⟩,
      ⟨some 4, none, .mv (.t 45)⟩])
    (.ret)))))
theorem k_impl_missed : chkF Try.prog Try.f55 46 c_impl_missed [.t 4] = true := by kernel_rfl
theorem call_impl_missed {args : List AV} {σ : List AB} {K : AV → List AB → Prop} (hn : args.length ≤ 46) (hw : wpC Try.prog σ.length 46 c_impl_missed (retP σ.length [.t 4] K) ⟨initT 0 args, σ⟩) : CallWp Try.prog n_impl_missed args σ K := call_fn mixed Try.func55 k_impl_missed hn hw
def l0_spec_SetValid : LC := .seq (.seq (.ops [⟨some 4, none, .mv (.t 3)⟩,
      ⟨some 5, none, .mv (.t 0)⟩,
      ⟨some 6, none, .len (.t 5)⟩,
      ⟨some 7, none, .bin .lss (.t 4) (.t 6)⟩])
    (.cond (.t 7) (.skip)
    (.exit 0)))
    (.seq (.block 1 (.seq (.ops [⟨some 10, none, .mv (.t 0)⟩,
      ⟨some 11, none, .mv (.t 3)⟩,
      ⟨some 12, none, .ia 3 (.t 10) (.t 11)⟩,
      ⟨some 13, none, .ldn 3 (.t 12)⟩,
      ⟨some 14, none, .call (.k (.fn n_spec_TaskValid [] [])) [.t 13]⟩,
      ⟨some 15, none, .not (.t 14)⟩])
    (.cond (.t 15) (.seq (.ops [⟨some 2, none, .mv (.k (.b false))⟩])
    (.ret))
    (.skip))))
    (.ops [⟨some 8, none, .mv (.t 3)⟩,
      ⟨some 9, none, .bin .add (.t 8) (.k (.i .i64 1))⟩,
      ⟨some 3, none, .mv (.t 9)⟩]))
def c_spec_SetValid : LC := .seq (.ops [⟨some 2, none, .mv (.k (.b false))⟩])
    (.seq (.seq (.ops [⟨some 3, none, .mv (.k (.i .i64 0))⟩])
    (.block 0 (.loop l0_spec_SetValid)))
    (.seq (.ops [⟨some 16, none, .mv (.t 0)⟩,
      ⟨some 17, none, .len (.t 16)⟩,
      ⟨some 18, none, .bin .leq (.t 17) (.k (.i .i64 5))⟩,
      ⟨some 2, none, .mv (.t 18)⟩])
    (.ret)))
theorem k_spec_SetValid : chkF Try.prog Try.f67 19 c_spec_SetValid [.t 2] = true := by kernel_rfl
theorem call_spec_SetValid {args : List AV} {σ : List AB} {K : AV → List AB → Prop} (hn : args.length ≤ 19) (hw : wpC Try.prog σ.length 19 c_spec_SetValid (retP σ.length [.t 2] K) ⟨initT 0 args, σ⟩) : CallWp Try.prog n_spec_SetValid args σ K := call_fn mixed Try.func67 k_spec_SetValid hn hw
def l0_spec_l20Jobs : LC := .seq (.seq (.ops [⟨some 103, none, .mv (.t 7)⟩,
      ⟨some 104, none, .len (.t 103)⟩,
      ⟨some 105, none, .bin .leq (.t 104) (.k (.i .i64 60))⟩])
    (.cond (.t 105) (.skip)
    (.exit 5)))
    (.block 6 (.ops [⟨some 106, none, .mv (.t 7)⟩,
      ⟨some 107, none, .build [.i .i64 0, .i .i64 0, .i .i64 0, .i .i64 0] [(1, 1, .k (.i .i64 119)), (2, 1, .k (.i .i64 120)), (3, 1, .k (.i .i64 1))]⟩,
      ⟨some 108, none, .bsl ty_impl_Job [.i .i64 0, .i .i64 0, .i .i64 0, .i .i64 0] 1 [(0, 4, .t 107)]⟩,
      ⟨some 109, none, .app ty_impl_Job 4 32 (.t 106) (.t 108)⟩,
      ⟨some 7, none, .mv (.t 109)⟩]))
def l1_spec_l20Jobs : LC := .seq (.seq (.ops [⟨some 24, none, .mv (.t 11)⟩,
      ⟨some 25, none, .mv (.t 1)⟩,
      ⟨some 26, none, .len (.t 25)⟩,
      ⟨some 27, none, .bin .lss (.t 24) (.t 26)⟩])
    (.cond (.t 27) (.skip)
    (.exit 2)))
    (.seq (.block 3 (.seq (.join (.ops [⟨some 30, none, .mv (.t 10)⟩,
      ⟨some 31, none, .mv (.t 8)⟩,
      ⟨some 32, none, .mv (.t 11)⟩,
      ⟨some 33, none, .ia 1 (.t 31) (.t 32)⟩,
      ⟨some 34, none, .ld (.t 33)⟩,
      ⟨some 35, none, .bin .lss (.t 30) (.t 34)⟩,
      ⟨some 36, none, .mv (.t 35)⟩,
      ⟨some 37, (some (36, false)), .mv (.t 7)⟩,
      ⟨some 38, (some (36, false)), .len (.t 37)⟩,
      ⟨some 39, (some (36, false)), .bin .eql (.t 38) (.k (.i .i64 60))⟩,
      ⟨some 40, none, .pick (.t 36) (.k (.b true)) (.t 39)⟩,
      ⟨some 41, none, .mv (.t 40)⟩,
      ⟨some 42, (some (41, false)), .mv (.t 9)⟩,
      ⟨some 43, (some (41, false)), .bin .lss (.t 42) (.k (.i .i64 2))⟩,
      ⟨some 44, (some (41, false)), .mv (.t 43)⟩,
      ⟨some 45, (some (44, true)), .mv (.t 0)⟩,
      ⟨some 46, (some (44, true)), .mv (.t 9)⟩,
      ⟨some 47, (some (44, true)), .bin .mul (.k (.i .i64 7)) (.t 46)⟩,
      ⟨some 48, (some (44, true)), .bin .add (.k (.i .i64 3)) (.t 47)⟩,
      ⟨some 49, (some (44, true)), .call (.k (.fn n_spec_l20Rd_pick [] [])) [.t 45, .t 48]⟩,
      ⟨some 50, (some (44, true)), .bin .gtr (.t 49) (.k (.i .i64 1))⟩,
      ⟨some 51, (some (41, false)), .pick (.t 44) (.t 50) (.k (.b false))⟩,
      ⟨some 52, none, .pick (.t 41) (.k (.b true)) (.t 51)⟩])
    (.cond (.t 52) (.exit 3)
    (.skip)))
    (.seq (.ops [⟨some 53, none, .mv (.t 1)⟩,
      ⟨some 54, none, .mv (.t 11)⟩,
      ⟨some 55, none, .ia 3 (.t 53) (.t 54)⟩,
      ⟨some 56, none, .fa 0 (.t 55)⟩,
      ⟨some 57, none, .ld (.t 56)⟩,
      ⟨some 12, none, .mv (.t 57)⟩])
    (.join (.seq (.ops [⟨some 58, none, .mv (.t 0)⟩,
      ⟨some 59, none, .call (.k (.fn n_spec_l20Rd_pick [] [])) [.t 58, .k (.i .i64 3)]⟩,
      ⟨some 60, none, .bin .eql (.t 59) (.k (.i .i64 0))⟩])
    (.cond (.t 60) (.ops [⟨some 61, none, .mv (.t 0)⟩,
      ⟨some 62, none, .mv (.t 12)⟩,
      ⟨some 63, none, .call (.k (.fn n_spec_l20Rd_pick [] [])) [.t 61, .t 62]⟩,
      ⟨some 64, none, .bin .add (.k (.i .i64 1)) (.t 63)⟩,
      ⟨some 12, none, .mv (.t 64)⟩])
    (.skip)))
    (.seq (.ops [⟨some 65, none, .mv (.t 7)⟩,
      ⟨some 66, none, .mv (.t 11)⟩,
      ⟨some 67, none, .mv (.t 10)⟩,
      ⟨some 68, none, .mv (.t 10)⟩,
      ⟨some 69, none, .mv (.t 1)⟩,
      ⟨some 70, none, .mv (.t 11)⟩,
      ⟨some 71, none, .ia 3 (.t 69) (.t 70)⟩,
      ⟨some 72, none, .fa 1 (.t 71)⟩,
      ⟨some 73, none, .ld (.t 72)⟩,
      ⟨some 74, none, .bin .add (.t 68) (.t 73)⟩,
      ⟨some 75, none, .mv (.t 12)⟩,
      ⟨some 76, none, .build [.i .i64 0, .i .i64 0, .i .i64 0, .i .i64 0] [(0, 1, .t 66), (1, 1, .t 67), (2, 1, .t 74), (3, 1, .t 75)]⟩,
      ⟨some 77, none, .bsl ty_impl_Job [.i .i64 0, .i .i64 0, .i .i64 0, .i .i64 0] 1 [(0, 4, .t 76)]⟩,
      ⟨some 78, none, .app ty_impl_Job 4 32 (.t 65) (.t 77)⟩,
      ⟨some 7, none, .mv (.t 78)⟩])
    (.ops [⟨some 79, none, .mv (.t 8)⟩,
      ⟨some 80, none, .mv (.t 11)⟩,
      ⟨some 81, none, .mv (.t 10)⟩,
      ⟨some 82, none, .mv (.t 1)⟩,
      ⟨some 83, none, .mv (.t 11)⟩,
      ⟨some 84, none, .ia 3 (.t 82) (.t 83)⟩,
      ⟨some 85, none, .fa 2 (.t 84)⟩,
      ⟨some 86, none, .ld (.t 85)⟩,
      ⟨some 87, none, .bin .add (.t 81) (.t 86)⟩,
      ⟨some 88, none, .ia 1 (.t 79) (.t 80)⟩,
      ⟨none, none, .st 1 (.t 88) (.t 87)⟩]))))))
    (.ops [⟨some 28, none, .mv (.t 11)⟩,
      ⟨some 29, none, .bin .add (.t 28) (.k (.i .i64 1))⟩,
      ⟨some 11, none, .mv (.t 29)⟩]))
def l2_spec_l20Jobs : LC := .seq (.seq (.ops [⟨some 20, none, .mv (.t 10)⟩,
      ⟨some 21, none, .bin .lss (.t 20) (.k (.i .i64 100))⟩])
    (.cond (.t 21) (.skip)
    (.exit 0)))
    (.seq (.block 1 (.seq (.ops [⟨some 11, none, .mv (.k (.i .i64 0))⟩])
    (.block 2 (.loop l1_spec_l20Jobs))))
    (.ops [⟨some 22, none, .mv (.t 10)⟩,
      ⟨some 23, none, .bin .add (.t 22) (.k (.i .i64 1))⟩,
      ⟨some 10, none, .mv (.t 23)⟩]))
def c_spec_l20Jobs : LC := .seq (.ops [⟨some 6, none, .mv (.k (.sn))⟩])
    (.seq (.ops [⟨some 14, none, .bsl ty_impl_Job [.i .i64 0, .i .i64 0, .i .i64 0, .i .i64 0] 0 []⟩,
      ⟨some 7, none, .mv (.t 14)⟩])
    (.seq (.ops [⟨some 15, none, .mv (.t 1)⟩,
      ⟨some 16, none, .len (.t 15)⟩,
      ⟨some 17, none, .msl ty_int 8 [.i .i64 0] (.t 16)⟩,
      ⟨some 8, none, .mv (.t 17)⟩])
    (.seq (.ops [⟨some 18, none, .mv (.t 0)⟩,
      ⟨some 19, none, .call (.k (.fn n_spec_l20Rd_pick [] [])) [.t 18, .k (.i .i64 3)]⟩,
      ⟨some 9, none, .mv (.t 19)⟩])
    (.seq (.seq (.ops [⟨some 10, none, .mv (.k (.i .i64 0))⟩])
    (.block 0 (.loop l2_spec_l20Jobs)))
    (.join (.seq (.ops [⟨some 89, none, .mv (.t 0)⟩,
      ⟨some 90, none, .mv (.t 2)⟩,
      ⟨some 91, none, .call (.k (.fn n_spec_l20Rd_odd [] [])) [.t 89, .t 90]⟩,
      ⟨some 92, none, .mv (.t 91)⟩,
      ⟨some 93, (some (92, true)), .mv (.t 7)⟩,
      ⟨some 94, (some (92, true)), .len (.t 93)⟩,
      ⟨some 95, (some (92, true)), .bin .gtr (.t 94) (.k (.i .i64 0))⟩,
      ⟨some 96, none, .pick (.t 92) (.t 95) (.k (.b false))⟩])
    (.cond (.t 96) (.seq (.ops [⟨some 97, none, .mv (.t 0)⟩,
      ⟨some 98, none, .mv (.t 7)⟩,
      ⟨some 99, none, .len (.t 98)⟩,
      ⟨some 100, none, .call (.k (.fn n_spec_l20Rd_pick [] [])) [.t 97, .t 99]⟩,
      ⟨some 13, none, .mv (.t 100)⟩])
    (.seq (.ops [⟨some 101, none, .mv (.t 0)⟩,
      ⟨some 102, none, .call (.k (.fn n_spec_l20Rd_pick [] [])) [.t 101, .k (.i .i64 6)]⟩])
    (.block 4 (.seq (.ops [⟨some 111, none, .bin .eql (.t 102) (.k (.i .i64 0))⟩,
      ⟨some 110, none, .mv (.t 111)⟩])
    (.cond (.t 110) (.ops [⟨some 112, none, .mv (.t 7)⟩,
      ⟨some 113, none, .mv (.t 13)⟩,
      ⟨some 114, none, .mv (.t 1)⟩,
      ⟨some 115, none, .len (.t 114)⟩,
      ⟨some 116, none, .bsl ty_int [.i .i64 0] 2 [(0, 1, .k (.i .i64 (-1))), (1, 1, .t 115)]⟩,
      ⟨some 117, none, .mv (.t 0)⟩,
      ⟨some 118, none, .call (.k (.fn n_spec_l20Rd_pick [] [])) [.t 117, .k (.i .i64 2)]⟩,
      ⟨some 119, none, .ia 1 (.t 116) (.t 118)⟩,
      ⟨some 120, none, .ld (.t 119)⟩,
      ⟨some 121, none, .ia 4 (.t 112) (.t 113)⟩,
      ⟨some 122, none, .fa 0 (.t 121)⟩,
      ⟨none, none, .st 1 (.t 122) (.t 120)⟩])
    (.seq (.ops [⟨some 124, none, .bin .eql (.t 102) (.k (.i .i64 1))⟩,
      ⟨some 123, none, .mv (.t 124)⟩])
    (.cond (.t 123) (.plan [0, 1, 2, 3, 4, 5, 6, 7, 9] [⟨some 125, none, .mv (.t 7)⟩,
      ⟨some 126, none, .mv (.t 13)⟩,
      ⟨some 127, none, .mv (.t 7)⟩,
      ⟨some 128, none, .mv (.t 13)⟩,
      ⟨some 129, none, .ia 4 (.t 127) (.t 128)⟩,
      ⟨some 130, none, .fa 1 (.t 129)⟩,
      ⟨some 131, none, .ld (.t 130)⟩,
      ⟨some 132, none, .bin .add (.t 131) (.k (.i .i64 1))⟩,
      ⟨some 134, none, .mv (.t 0)⟩]
      (.alt (.one 8 ⟨some 133, none, .bsl ty_int [.i .i64 0] 3 [(0, 1, .k (.i .i64 (-1))), (1, 1, .k (.i .i64 120)), (2, 1, .t 132)]⟩ [(131, none, 130)] []
        []
      (.one 10 ⟨some 135, none, .call (.k (.fn n_spec_l20Rd_pick [] [])) [.t 134, .k (.i .i64 3)]⟩ [(131, none, 130)] [11, 12, 13, 14]
        [⟨some 136, none, .ia 1 (.t 133) (.t 135)⟩,
        ⟨some 137, none, .ld (.t 136)⟩,
        ⟨some 138, none, .ia 4 (.t 125) (.t 126)⟩,
        ⟨some 139, none, .fa 1 (.t 138)⟩]
      (.one 15 ⟨none, none, .st 1 (.t 139) (.t 137)⟩ [] []
        []
      .fin))) (.one 10 ⟨some 135, none, .call (.k (.fn n_spec_l20Rd_pick [] [])) [.t 134, .k (.i .i64 3)]⟩ [(131, none, 130)] []
        []
      (.one 8 ⟨some 133, none, .bsl ty_int [.i .i64 0] 3 [(0, 1, .k (.i .i64 (-1))), (1, 1, .k (.i .i64 120)), (2, 1, .t 132)]⟩ [(131, none, 130)] [11, 12, 13, 14]
        [⟨some 136, none, .ia 1 (.t 133) (.t 135)⟩,
        ⟨some 137, none, .ld (.t 136)⟩,
        ⟨some 138, none, .ia 4 (.t 125) (.t 126)⟩,
        ⟨some 139, none, .fa 1 (.t 138)⟩]
      (.one 15 ⟨none, none, .st 1 (.t 139) (.t 137)⟩ [] []
        []
      .fin)))))
    (.seq (.ops [⟨some 141, none, .bin .eql (.t 102) (.k (.i .i64 2))⟩,
      ⟨some 140, none, .mv (.t 141)⟩])
    (.cond (.t 140) (.ops [⟨some 142, none, .mv (.t 7)⟩,
      ⟨some 143, none, .mv (.t 13)⟩,
      ⟨some 144, none, .mv (.t 7)⟩,
      ⟨some 145, none, .mv (.t 13)⟩,
      ⟨some 146, none, .ia 4 (.t 144) (.t 145)⟩,
      ⟨some 147, none, .fa 2 (.t 146)⟩,
      ⟨some 148, none, .ld (.t 147)⟩,
      ⟨some 149, none, .bin .add (.t 148) (.k (.i .i64 1))⟩,
      ⟨some 150, none, .ia 4 (.t 142) (.t 143)⟩,
      ⟨some 151, none, .fa 2 (.t 150)⟩,
      ⟨none, none, .st 1 (.t 151) (.t 149)⟩])
    (.seq (.ops [⟨some 153, none, .bin .eql (.t 102) (.k (.i .i64 3))⟩,
      ⟨some 152, none, .mv (.t 153)⟩])
    (.cond (.t 152) (.ops [⟨some 154, none, .mv (.t 7)⟩,
      ⟨some 155, none, .mv (.t 13)⟩,
      ⟨some 156, none, .bsl ty_int [.i .i64 0] 2 [(0, 1, .k (.i .i64 0)), (1, 1, .k (.i .i64 9))]⟩,
      ⟨some 157, none, .mv (.t 0)⟩,
      ⟨some 158, none, .call (.k (.fn n_spec_l20Rd_pick [] [])) [.t 157, .k (.i .i64 2)]⟩,
      ⟨some 159, none, .ia 1 (.t 156) (.t 158)⟩,
      ⟨some 160, none, .ld (.t 159)⟩,
      ⟨some 161, none, .ia 4 (.t 154) (.t 155)⟩,
      ⟨some 162, none, .fa 3 (.t 161)⟩,
      ⟨none, none, .st 1 (.t 162) (.t 160)⟩])
    (.seq (.ops [⟨some 164, none, .bin .eql (.t 102) (.k (.i .i64 4))⟩,
      ⟨some 163, none, .mv (.t 164)⟩])
    (.cond (.t 163) (.ops [⟨some 165, none, .mv (.t 7)⟩,
      ⟨some 166, none, .mv (.t 7)⟩,
      ⟨some 167, none, .mv (.t 13)⟩,
      ⟨some 168, none, .ia 4 (.t 166) (.t 167)⟩,
      ⟨some 169, none, .ldn 4 (.t 168)⟩,
      ⟨some 170, none, .bsl ty_impl_Job [.i .i64 0, .i .i64 0, .i .i64 0, .i .i64 0] 1 [(0, 4, .t 169)]⟩,
      ⟨some 171, none, .app ty_impl_Job 4 32 (.t 165) (.t 170)⟩,
      ⟨some 7, none, .mv (.t 171)⟩])
    (.block 5 (.loop l0_spec_l20Jobs)))))))))))))))
    (.skip)))
    (.seq (.ops [⟨some 172, none, .mv (.t 7)⟩,
      ⟨some 6, none, .mv (.t 172)⟩])
    (.ret)))))))
theorem k_spec_l20Jobs : chkF Try.prog Try.f68 173 c_spec_l20Jobs [.t 6] = true := by kernel_rfl
theorem call_spec_l20Jobs {args : List AV} {σ : List AB} {K : AV → List AB → Prop} (hn : args.length ≤ 173) (hw : wpC Try.prog σ.length 173 c_spec_l20Jobs (retP σ.length [.t 6] K) ⟨initT 0 args, σ⟩) : CallWp Try.prog n_spec_l20Jobs args σ K := call_fn mixed Try.func68 k_spec_l20Jobs hn hw
def c_impl_newMachine : LC := .seq (.ops [⟨some 2, none, .mv (.k (.pn))⟩])
    (.seq (.ops [⟨some 3, none, .mv (.t 0)⟩,
      ⟨some 4, none, .mv (.t 0)⟩,
      ⟨some 5, none, .len (.t 4)⟩,
      ⟨some 6, none, .msl ty_int 8 [.i .i64 0] (.t 5)⟩,
      ⟨some 7, none, .build [.sn, .sn, .i .i64 0] [(0, 1, .t 3), (1, 1, .t 6)]⟩,
      ⟨some 8, none, .box ty_impl_machine (.t 7)⟩,
      ⟨some 2, none, .mv (.t 8)⟩])
    (.ret))
theorem k_impl_newMachine : chkF Try.prog Try.f70 9 c_impl_newMachine [.t 2] = true := by kernel_rfl
theorem call_impl_newMachine {args : List AV} {σ : List AB} {K : AV → List AB → Prop} (hn : args.length ≤ 9) (hw : wpC Try.prog σ.length 9 c_impl_newMachine (retP σ.length [.t 2] K) ⟨initT 0 args, σ⟩) : CallWp Try.prog n_impl_newMachine args σ K := call_fn mixed Try.func70 k_impl_newMachine hn hw
def c_impl_none : LC := .seq (.ops [⟨some 2, none, .mv (.k (.sn))⟩])
    (.seq (.ops [⟨some 3, none, .bsl ty_int [.i .i64 0] 1 [(0, 1, .k (.i .i64 (-1)))]⟩,
      ⟨some 4, none, .mv (.t 0)⟩,
      ⟨some 5, none, .call (.k (.fn n_slices_Repeat_int [] [])) [.t 3, .t 4]⟩,
      ⟨some 2, none, .mv (.t 5)⟩])
    (.ret))
theorem k_impl_none : chkF Try.prog Try.f71 6 c_impl_none [.t 2] = true := by kernel_rfl
theorem call_impl_none {args : List AV} {σ : List AB} {K : AV → List AB → Prop} (hn : args.length ≤ 6) (hw : wpC Try.prog σ.length 6 c_impl_none (retP σ.length [.t 2] K) ⟨initT 0 args, σ⟩) : CallWp Try.prog n_impl_none args σ K := call_fn mixed Try.func71 k_impl_none hn hw
def c_impl_machine_ready : LC := .seq (.ops [⟨some 4, none, .mv (.k (.b false))⟩])
    (.seq (.draw 31 [⟨some 5, none, .mv (.t 0)⟩,
      ⟨some 6, none, .nilc (.t 5)⟩,
      ⟨some 7, none, .fa 0 (.t 6)⟩,
      ⟨some 8, none, .ld (.t 7)⟩,
      ⟨some 9, none, .mv (.t 1)⟩,
      ⟨some 10, none, .ia 4 (.t 8) (.t 9)⟩,
      ⟨some 11, none, .fa 1 (.t 10)⟩,
      ⟨some 12, none, .ld (.t 11)⟩,
      ⟨some 13, none, .mv (.t 0)⟩,
      ⟨some 14, none, .nilc (.t 13)⟩,
      ⟨some 15, none, .fa 2 (.t 14)⟩,
      ⟨some 16, none, .ld (.t 15)⟩,
      ⟨some 17, none, .bin .leq (.t 12) (.t 16)⟩,
      ⟨some 18, none, .mv (.t 17)⟩,
      ⟨some 19, (some (18, true)), .mv (.t 0)⟩,
      ⟨some 20, (some (18, true)), .nilc (.t 19)⟩,
      ⟨some 21, (some (18, true)), .fa 1 (.t 20)⟩,
      ⟨some 22, (some (18, true)), .ld (.t 21)⟩,
      ⟨some 23, (some (18, true)), .mv (.t 1)⟩,
      ⟨some 24, (some (18, true)), .ia 1 (.t 22) (.t 23)⟩,
      ⟨some 25, (some (18, true)), .ld (.t 24)⟩,
      ⟨some 26, (some (18, true)), .mv (.t 0)⟩,
      ⟨some 27, (some (18, true)), .nilc (.t 26)⟩,
      ⟨some 28, (some (18, true)), .fa 0 (.t 27)⟩,
      ⟨some 29, (some (18, true)), .ld (.t 28)⟩,
      ⟨some 30, (some (18, true)), .mv (.t 1)⟩,
      ⟨some 31, (some (18, true)), .ia 4 (.t 29) (.t 30)⟩,
      ⟨some 32, (some (18, true)), .fa 3 (.t 31)⟩,
      ⟨some 33, (some (18, true)), .ld (.t 32)⟩,
      ⟨some 34, (some (18, true)), .bin .lss (.t 25) (.t 33)⟩,
      ⟨some 35, none, .pick (.t 18) (.t 34) (.k (.b false))⟩,
      ⟨some 4, none, .mv (.t 35)⟩])
    (.ret))
theorem k_impl_machine_ready : chkF Try.prog Try.f72 36 c_impl_machine_ready [.t 4] = true := by kernel_rfl
theorem call_impl_machine_ready {args : List AV} {σ : List AB} {K : AV → List AB → Prop} (hn : args.length ≤ 36) (hw : wpC Try.prog σ.length 36 c_impl_machine_ready (retP σ.length [.t 4] K) ⟨initT 0 args, σ⟩) : CallWp Try.prog n_impl_machine_ready args σ K := call_fn mixed Try.func72 k_impl_machine_ready hn hw
def l0_spec_JobsLegal : LC := .seq (.seq (.ops [⟨some 20, none, .mv (.t 6)⟩,
      ⟨some 21, none, .mv (.t 1)⟩,
      ⟨some 22, none, .len (.t 21)⟩,
      ⟨some 23, none, .bin .lss (.t 20) (.t 22)⟩])
    (.cond (.t 23) (.skip)
    (.exit 0)))
    (.seq (.block 1 (.seq (.ops [⟨some 26, none, .mv (.t 1)⟩,
      ⟨some 27, none, .mv (.t 6)⟩,
      ⟨some 28, none, .ia 4 (.t 26) (.t 27)⟩,
      ⟨some 29, none, .ldn 4 (.t 28)⟩,
      ⟨some 7, none, .alloc ty_impl_Job [.i .i64 0, .i .i64 0, .i .i64 0, .i .i64 0]⟩,
      ⟨none, none, .st 4 (.t 7) (.t 29)⟩])
    (.seq (.seq (.ops [⟨some 30, none, .fa 0 (.t 7)⟩,
      ⟨some 31, none, .ld (.t 30)⟩,
      ⟨some 32, none, .mv (.t 0)⟩,
      ⟨some 33, none, .len (.t 32)⟩,
      ⟨some 34, none, .bin .sub (.t 33) (.k (.i .i64 1))⟩,
      ⟨some 35, none, .call (.k (.fn n_spec_l1In [] [])) [.t 31, .k (.i .i64 0), .t 34]⟩,
      ⟨some 36, none, .not (.t 35)⟩,
      ⟨some 37, none, .mv (.t 36)⟩,
      ⟨some 38, (some (37, false)), .fa 1 (.t 7)⟩,
      ⟨some 39, (some (37, false)), .ld (.t 38)⟩,
      ⟨some 40, (some (37, false)), .call (.k (.fn n_spec_l1In [] [])) [.t 39, .k (.i .i64 0), .k (.i .i64 119)]⟩,
      ⟨some 41, (some (37, false)), .not (.t 40)⟩,
      ⟨some 42, none, .pick (.t 37) (.k (.b true)) (.t 41)⟩])
    (.cond (.t 42) (.seq (.ops [⟨some 4, none, .mv (.k (.b false))⟩])
    (.ret))
    (.skip)))
    (.seq (.ops [⟨some 43, none, .mv (.t 0)⟩,
      ⟨some 44, none, .fa 0 (.t 7)⟩,
      ⟨some 45, none, .ld (.t 44)⟩,
      ⟨some 46, none, .ia 3 (.t 43) (.t 45)⟩,
      ⟨some 47, none, .ldn 3 (.t 46)⟩,
      ⟨some 8, none, .alloc ty_impl_Task [.i .i64 0, .i .i64 0, .i .i64 0]⟩,
      ⟨none, none, .st 3 (.t 8) (.t 47)⟩])
    (.seq (.seq (.draw 26 [⟨some 48, none, .fa 1 (.t 7)⟩,
      ⟨some 49, none, .ld (.t 48)⟩,
      ⟨some 50, none, .mv (.t 5)⟩,
      ⟨some 51, none, .fa 0 (.t 7)⟩,
      ⟨some 52, none, .ld (.t 51)⟩,
      ⟨some 53, none, .ia 1 (.t 50) (.t 52)⟩,
      ⟨some 54, none, .ld (.t 53)⟩,
      ⟨some 55, none, .bin .lss (.t 49) (.t 54)⟩,
      ⟨some 56, none, .mv (.t 55)⟩,
      ⟨some 57, (some (56, false)), .fa 2 (.t 7)⟩,
      ⟨some 58, (some (56, false)), .ld (.t 57)⟩,
      ⟨some 59, (some (56, false)), .fa 1 (.t 7)⟩,
      ⟨some 60, (some (56, false)), .ld (.t 59)⟩,
      ⟨some 61, (some (56, false)), .fa 1 (.t 8)⟩,
      ⟨some 62, (some (56, false)), .ld (.t 61)⟩,
      ⟨some 63, (some (56, false)), .bin .add (.t 60) (.t 62)⟩,
      ⟨some 64, (some (56, false)), .bin .neq (.t 58) (.t 63)⟩,
      ⟨some 65, none, .pick (.t 56) (.k (.b true)) (.t 64)⟩,
      ⟨some 66, none, .mv (.t 65)⟩,
      ⟨some 67, (some (66, false)), .fa 3 (.t 7)⟩,
      ⟨some 68, (some (66, false)), .ld (.t 67)⟩,
      ⟨some 69, (some (66, false)), .fa 0 (.t 8)⟩,
      ⟨some 70, (some (66, false)), .ld (.t 69)⟩,
      ⟨some 71, (some (66, false)), .call (.k (.fn n_spec_l1In [] [])) [.t 68, .k (.i .i64 1), .t 70]⟩,
      ⟨some 72, (some (66, false)), .not (.t 71)⟩,
      ⟨some 73, none, .pick (.t 66) (.k (.b true)) (.t 72)⟩])
    (.cond (.t 73) (.seq (.ops [⟨some 4, none, .mv (.k (.b false))⟩])
    (.ret))
    (.skip)))
    (.seq (.seq (.draw 35 [⟨some 74, none, .mv (.t 6)⟩,
      ⟨some 75, none, .bin .gtr (.t 74) (.k (.i .i64 0))⟩,
      ⟨some 76, none, .mv (.t 75)⟩,
      ⟨some 77, (some (76, true)), .mv (.t 1)⟩,
      ⟨some 78, (some (76, true)), .mv (.t 6)⟩,
      ⟨some 79, (some (76, true)), .bin .sub (.t 78) (.k (.i .i64 1))⟩,
      ⟨some 80, (some (76, true)), .ia 4 (.t 77) (.t 79)⟩,
      ⟨some 81, (some (76, true)), .fa 1 (.t 80)⟩,
      ⟨some 82, (some (76, true)), .ld (.t 81)⟩,
      ⟨some 83, (some (76, true)), .fa 1 (.t 7)⟩,
      ⟨some 84, (some (76, true)), .ld (.t 83)⟩,
      ⟨some 85, (some (76, true)), .bin .gtr (.t 82) (.t 84)⟩,
      ⟨some 86, (some (76, true)), .mv (.t 85)⟩,
      ⟨some 87, (some (86, false)), .mv (.t 1)⟩,
      ⟨some 88, (some (86, false)), .mv (.t 6)⟩,
      ⟨some 89, (some (86, false)), .bin .sub (.t 88) (.k (.i .i64 1))⟩,
      ⟨some 90, (some (86, false)), .ia 4 (.t 87) (.t 89)⟩,
      ⟨some 91, (some (86, false)), .fa 1 (.t 90)⟩,
      ⟨some 92, (some (86, false)), .ld (.t 91)⟩,
      ⟨some 93, (some (86, false)), .fa 1 (.t 7)⟩,
      ⟨some 94, (some (86, false)), .ld (.t 93)⟩,
      ⟨some 95, (some (86, false)), .bin .eql (.t 92) (.t 94)⟩,
      ⟨some 96, (some (86, false)), .mv (.t 95)⟩,
      ⟨some 97, (some (96, true)), .mv (.t 1)⟩,
      ⟨some 98, (some (96, true)), .mv (.t 6)⟩,
      ⟨some 99, (some (96, true)), .bin .sub (.t 98) (.k (.i .i64 1))⟩,
      ⟨some 100, (some (96, true)), .ia 4 (.t 97) (.t 99)⟩,
      ⟨some 101, (some (96, true)), .fa 0 (.t 100)⟩,
      ⟨some 102, (some (96, true)), .ld (.t 101)⟩,
      ⟨some 103, (some (96, true)), .fa 0 (.t 7)⟩,
      ⟨some 104, (some (96, true)), .ld (.t 103)⟩,
      ⟨some 105, (some (96, true)), .bin .geq (.t 102) (.t 104)⟩,
      ⟨some 106, (some (86, false)), .pick (.t 96) (.t 105) (.k (.b false))⟩,
      ⟨some 107, (some (76, true)), .pick (.t 86) (.k (.b true)) (.t 106)⟩,
      ⟨some 108, none, .pick (.t 76) (.t 107) (.k (.b false))⟩])
    (.cond (.t 108) (.seq (.ops [⟨some 4, none, .mv (.k (.b false))⟩])
    (.ret))
    (.skip)))
    (.ops [⟨some 109, none, .mv (.t 5)⟩,
      ⟨some 110, none, .fa 0 (.t 7)⟩,
      ⟨some 111, none, .ld (.t 110)⟩,
      ⟨some 112, none, .fa 1 (.t 7)⟩,
      ⟨some 113, none, .ld (.t 112)⟩,
      ⟨some 114, none, .fa 2 (.t 8)⟩,
      ⟨some 115, none, .ld (.t 114)⟩,
      ⟨some 116, none, .bin .add (.t 113) (.t 115)⟩,
      ⟨some 117, none, .ia 1 (.t 109) (.t 111)⟩,
      ⟨none, none, .st 1 (.t 117) (.t 116)⟩])))))))
    (.ops [⟨some 24, none, .mv (.t 6)⟩,
      ⟨some 25, none, .bin .add (.t 24) (.k (.i .i64 1))⟩,
      ⟨some 6, none, .mv (.t 25)⟩]))
def c_spec_JobsLegal : LC := .seq (.ops [⟨some 4, none, .mv (.k (.b false))⟩])
    (.seq (.seq (.ops [⟨some 9, none, .mv (.t 0)⟩,
      ⟨some 10, none, .call (.k (.fn n_spec_SetValid [] [])) [.t 9]⟩,
      ⟨some 11, none, .not (.t 10)⟩,
      ⟨some 12, none, .mv (.t 11)⟩,
      ⟨some 13, (some (12, false)), .mv (.t 1)⟩,
      ⟨some 14, (some (12, false)), .len (.t 13)⟩,
      ⟨some 15, (some (12, false)), .bin .gtr (.t 14) (.k (.i .i64 60))⟩,
      ⟨some 16, none, .pick (.t 12) (.k (.b true)) (.t 15)⟩])
    (.cond (.t 16) (.seq (.ops [⟨some 4, none, .mv (.k (.b false))⟩])
    (.ret))
    (.skip)))
    (.seq (.ops [⟨some 17, none, .mv (.t 0)⟩,
      ⟨some 18, none, .len (.t 17)⟩,
      ⟨some 19, none, .msl ty_int 8 [.i .i64 0] (.t 18)⟩,
      ⟨some 5, none, .mv (.t 19)⟩])
    (.seq (.seq (.ops [⟨some 6, none, .mv (.k (.i .i64 0))⟩])
    (.block 0 (.loop l0_spec_JobsLegal)))
    (.seq (.ops [⟨some 4, none, .mv (.k (.b true))⟩])
    (.ret)))))
theorem k_spec_JobsLegal : chkF Try.prog Try.f77 118 c_spec_JobsLegal [.t 4] = true := by kernel_rfl
theorem call_spec_JobsLegal {args : List AV} {σ : List AB} {K : AV → List AB → Prop} (hn : args.length ≤ 118) (hw : wpC Try.prog σ.length 118 c_spec_JobsLegal (retP σ.length [.t 4] K) ⟨initT 0 args, σ⟩) : CallWp Try.prog n_spec_JobsLegal args σ K := call_fn mixed Try.func77 k_spec_JobsLegal hn hw
def c_spec_l1In : LC := .seq (.ops [⟨some 6, none, .mv (.k (.b false))⟩])
    (.seq (.ops [⟨some 7, none, .mv (.t 0)⟩,
      ⟨some 8, none, .mv (.t 1)⟩,
      ⟨some 9, none, .bin .geq (.t 7) (.t 8)⟩,
      ⟨some 10, none, .mv (.t 9)⟩,
      ⟨some 11, (some (10, true)), .mv (.t 0)⟩,
      ⟨some 12, (some (10, true)), .mv (.t 2)⟩,
      ⟨some 13, (some (10, true)), .bin .leq (.t 11) (.t 12)⟩,
      ⟨some 14, none, .pick (.t 10) (.t 13) (.k (.b false))⟩,
      ⟨some 6, none, .mv (.t 14)⟩])
    (.ret))
theorem k_spec_l1In : chkF Try.prog Try.f78 15 c_spec_l1In [.t 6] = true := by kernel_rfl
theorem call_spec_l1In {args : List AV} {σ : List AB} {K : AV → List AB → Prop} (hn : args.length ≤ 15) (hw : wpC Try.prog σ.length 15 c_spec_l1In (retP σ.length [.t 6] K) ⟨initT 0 args, σ⟩) : CallWp Try.prog n_spec_l1In args σ K := call_fn mixed Try.func78 k_spec_l1In hn hw
def c_spec_l20Rd_pick : LC := .seq (.ops [⟨some 4, none, .mv (.k (.i .i64 0))⟩])
    (.seq (.ops [⟨some 7, none, .mv (.t 0)⟩,
      ⟨some 8, none, .mv (.t 0)⟩,
      ⟨some 9, none, .nilc (.t 8)⟩,
      ⟨some 10, none, .fa 1 (.t 9)⟩,
      ⟨some 11, none, .ld (.t 10)⟩,
      ⟨some 12, none, .bin .add (.t 11) (.k (.i .i64 1))⟩,
      ⟨some 13, none, .nilc (.t 7)⟩,
      ⟨some 14, none, .fa 1 (.t 13)⟩,
      ⟨none, none, .st 1 (.t 14) (.t 12)⟩])
    (.seq (.seq (.ops [⟨some 15, none, .mv (.t 1)⟩,
      ⟨some 16, none, .bin .lss (.t 15) (.k (.i .i64 1))⟩,
      ⟨some 17, none, .mv (.t 16)⟩,
      ⟨some 18, (some (17, false)), .mv (.t 0)⟩,
      ⟨some 19, (some (17, false)), .nilc (.t 18)⟩,
      ⟨some 20, (some (17, false)), .fa 0 (.t 19)⟩,
      ⟨some 21, (some (17, false)), .ld (.t 20)⟩,
      ⟨some 22, (some (17, false)), .len (.t 21)⟩,
      ⟨some 23, (some (17, false)), .bin .eql (.t 22) (.k (.i .i64 0))⟩,
      ⟨some 24, none, .pick (.t 17) (.k (.b true)) (.t 23)⟩])
    (.cond (.t 24) (.seq (.ops [⟨some 4, none, .mv (.k (.i .i64 0))⟩])
    (.ret))
    (.skip)))
    (.seq (.ops [⟨some 25, none, .mv (.t 0)⟩,
      ⟨some 26, none, .nilc (.t 25)⟩,
      ⟨some 27, none, .fa 1 (.t 26)⟩,
      ⟨some 28, none, .ld (.t 27)⟩,
      ⟨some 29, none, .bin .sub (.t 28) (.k (.i .i64 1))⟩,
      ⟨some 5, none, .mv (.t 29)⟩])
    (.seq (.seq (.ops [⟨some 30, none, .mv (.t 5)⟩,
      ⟨some 31, none, .mv (.t 0)⟩,
      ⟨some 32, none, .nilc (.t 31)⟩,
      ⟨some 33, none, .fa 0 (.t 32)⟩,
      ⟨some 34, none, .ld (.t 33)⟩,
      ⟨some 35, none, .len (.t 34)⟩,
      ⟨some 36, none, .bin .lss (.t 30) (.t 35)⟩])
    (.cond (.t 36) (.seq (.ops [⟨some 37, none, .mv (.t 0)⟩,
      ⟨some 38, none, .nilc (.t 37)⟩,
      ⟨some 39, none, .fa 0 (.t 38)⟩,
      ⟨some 40, none, .ld (.t 39)⟩,
      ⟨some 41, none, .mv (.t 5)⟩,
      ⟨some 42, none, .ia 1 (.t 40) (.t 41)⟩,
      ⟨some 43, none, .ld (.t 42)⟩,
      ⟨some 44, none, .conv .i64 (.t 43)⟩,
      ⟨some 45, none, .mv (.t 1)⟩,
      ⟨some 46, none, .bin .rem (.t 44) (.t 45)⟩,
      ⟨some 4, none, .mv (.t 46)⟩])
    (.ret))
    (.skip)))
    (.seq (.draw 45 [⟨some 47, none, .mv (.t 0)⟩,
      ⟨some 48, none, .nilc (.t 47)⟩,
      ⟨some 49, none, .fa 0 (.t 48)⟩,
      ⟨some 50, none, .ld (.t 49)⟩,
      ⟨some 51, none, .mv (.t 5)⟩,
      ⟨some 52, none, .mv (.t 0)⟩,
      ⟨some 53, none, .nilc (.t 52)⟩,
      ⟨some 54, none, .fa 0 (.t 53)⟩,
      ⟨some 55, none, .ld (.t 54)⟩,
      ⟨some 56, none, .len (.t 55)⟩,
      ⟨some 57, none, .bin .rem (.t 51) (.t 56)⟩,
      ⟨some 58, none, .ia 1 (.t 50) (.t 57)⟩,
      ⟨some 59, none, .ld (.t 58)⟩,
      ⟨some 60, none, .conv .i64 (.t 59)⟩,
      ⟨some 61, none, .bin .mul (.t 60) (.k (.i .i64 131))⟩,
      ⟨some 62, none, .mv (.t 0)⟩,
      ⟨some 63, none, .nilc (.t 62)⟩,
      ⟨some 64, none, .fa 0 (.t 63)⟩,
      ⟨some 65, none, .ld (.t 64)⟩,
      ⟨some 66, none, .mv (.t 5)⟩,
      ⟨some 67, none, .bin .mul (.t 66) (.k (.i .i64 7))⟩,
      ⟨some 68, none, .bin .add (.t 67) (.k (.i .i64 3))⟩,
      ⟨some 69, none, .mv (.t 0)⟩,
      ⟨some 70, none, .nilc (.t 69)⟩,
      ⟨some 71, none, .fa 0 (.t 70)⟩,
      ⟨some 72, none, .ld (.t 71)⟩,
      ⟨some 73, none, .len (.t 72)⟩,
      ⟨some 74, none, .bin .rem (.t 68) (.t 73)⟩,
      ⟨some 75, none, .ia 1 (.t 65) (.t 74)⟩,
      ⟨some 76, none, .ld (.t 75)⟩,
      ⟨some 77, none, .conv .i64 (.t 76)⟩,
      ⟨some 78, none, .bin .mul (.t 77) (.k (.i .i64 1117))⟩,
      ⟨some 79, none, .bin .add (.t 61) (.t 78)⟩,
      ⟨some 80, none, .mv (.t 5)⟩,
      ⟨some 81, none, .bin .mul (.t 80) (.k (.i .i64 29))⟩,
      ⟨some 82, none, .bin .add (.t 79) (.t 81)⟩,
      ⟨some 83, none, .mv (.t 5)⟩,
      ⟨some 84, none, .mv (.t 0)⟩,
      ⟨some 85, none, .nilc (.t 84)⟩,
      ⟨some 86, none, .fa 0 (.t 85)⟩,
      ⟨some 87, none, .ld (.t 86)⟩,
      ⟨some 88, none, .len (.t 87)⟩,
      ⟨some 89, none, .bin .quo (.t 83) (.t 88)⟩,
      ⟨some 90, none, .bin .mul (.t 89) (.k (.i .i64 53))⟩,
      ⟨some 91, none, .bin .add (.t 82) (.t 90)⟩,
      ⟨some 6, none, .mv (.t 91)⟩])
    (.seq (.ops [⟨some 92, none, .mv (.t 6)⟩,
      ⟨some 93, none, .mv (.t 6)⟩,
      ⟨some 94, none, .bin .quo (.t 93) (.k (.i .i64 64))⟩,
      ⟨some 95, none, .bin .xor (.t 92) (.t 94)⟩,
      ⟨some 6, none, .mv (.t 95)⟩])
    (.seq (.ops [⟨some 96, none, .mv (.t 6)⟩,
      ⟨some 97, none, .mv (.t 1)⟩,
      ⟨some 98, none, .bin .rem (.t 96) (.t 97)⟩,
      ⟨some 4, none, .mv (.t 98)⟩])
    (.ret))))))))
theorem k_spec_l20Rd_pick : chkF Try.prog Try.f83 99 c_spec_l20Rd_pick [.t 4] = true := by kernel_rfl
theorem call_spec_l20Rd_pick {args : List AV} {σ : List AB} {K : AV → List AB → Prop} (hn : args.length ≤ 99) (hw : wpC Try.prog σ.length 99 c_spec_l20Rd_pick (retP σ.length [.t 4] K) ⟨initT 0 args, σ⟩) : CallWp Try.prog n_spec_l20Rd_pick args σ K := call_fn mixed Try.func83 k_spec_l20Rd_pick hn hw
def c_spec_l20Rd_odd : LC := .seq (.ops [⟨some 4, none, .mv (.k (.b false))⟩])
    (.seq (.ops [⟨some 5, none, .mv (.t 1)⟩,
      ⟨some 6, none, .bin .gtr (.t 5) (.k (.i .i64 0))⟩,
      ⟨some 7, none, .mv (.t 6)⟩,
      ⟨some 8, (some (7, true)), .mv (.t 0)⟩,
      ⟨some 9, (some (7, true)), .mv (.t 1)⟩,
      ⟨some 10, (some (7, true)), .call (.k (.fn n_spec_l20Rd_pick [] [])) [.t 8, .t 9]⟩,
      ⟨some 11, (some (7, true)), .mv (.t 1)⟩,
      ⟨some 12, (some (7, true)), .bin .sub (.t 11) (.k (.i .i64 1))⟩,
      ⟨some 13, (some (7, true)), .bin .eql (.t 10) (.t 12)⟩,
      ⟨some 14, none, .pick (.t 7) (.t 13) (.k (.b false))⟩,
      ⟨some 4, none, .mv (.t 14)⟩])
    (.ret))
theorem k_spec_l20Rd_odd : chkF Try.prog Try.f84 15 c_spec_l20Rd_odd [.t 4] = true := by kernel_rfl
theorem call_spec_l20Rd_odd {args : List AV} {σ : List AB} {K : AV → List AB → Prop} (hn : args.length ≤ 15) (hw : wpC Try.prog σ.length 15 c_spec_l20Rd_odd (retP σ.length [.t 4] K) ⟨initT 0 args, σ⟩) : CallWp Try.prog n_spec_l20Rd_odd args σ K := call_fn mixed Try.func84 k_spec_l20Rd_odd hn hw
def c_impl_MixedValid : LC := .seq (.ops [⟨some 2, none, .mv (.k (.b false))⟩])
    (.seq (.ops [⟨some 3, none, .mv (.t 0)⟩,
      ⟨some 4, none, .len (.t 3)⟩,
      ⟨some 5, none, .bin .leq (.t 4) (.k (.i .i64 5))⟩,
      ⟨some 6, none, .mv (.t 5)⟩,
      ⟨some 7, (some (6, true)), .mv (.t 0)⟩,
      ⟨some 8, (some (6, true)), .call (.k (.fn n_slices_ContainsFunc_impl_MixedTask [] [])) [.t 7, .k (.fn n_impl_MixedValid_1 [] [])]⟩,
      ⟨some 9, (some (6, true)), .not (.t 8)⟩,
      ⟨some 10, none, .pick (.t 6) (.t 9) (.k (.b false))⟩,
      ⟨some 2, none, .mv (.t 10)⟩])
    (.ret))
theorem k_impl_MixedValid : chkF Try.prog Try.f85 11 c_impl_MixedValid [.t 2] = true := by kernel_rfl
theorem call_impl_MixedValid {args : List AV} {σ : List AB} {K : AV → List AB → Prop} (hn : args.length ≤ 11) (hw : wpC Try.prog σ.length 11 c_impl_MixedValid (retP σ.length [.t 2] K) ⟨initT 0 args, σ⟩) : CallWp Try.prog n_impl_MixedValid args σ K := call_fn mixed Try.func85 k_impl_MixedValid hn hw
def c_impl_reduced : LC := .seq (.ops [⟨some 4, none, .alloc ty_impl_Fraction [.i .i64 0, .i .i64 0]⟩])
    (.seq (.ops [⟨some 6, none, .mv (.t 0)⟩,
      ⟨some 7, none, .mv (.t 1)⟩,
      ⟨some 8, none, .call (.k (.fn n_impl_gcd [] [])) [.t 6, .t 7]⟩,
      ⟨some 5, none, .mv (.t 8)⟩])
    (.seq (.draw 7 [⟨some 9, none, .mv (.t 0)⟩,
      ⟨some 10, none, .mv (.t 5)⟩,
      ⟨some 11, none, .bin .quo (.t 9) (.t 10)⟩,
      ⟨some 12, none, .mv (.t 1)⟩,
      ⟨some 13, none, .mv (.t 5)⟩,
      ⟨some 14, none, .bin .quo (.t 12) (.t 13)⟩,
      ⟨some 15, none, .build [.i .i64 0, .i .i64 0] [(0, 1, .t 11), (1, 1, .t 14)]⟩,
      ⟨none, none, .st 2 (.t 4) (.t 15)⟩])
    (.ret)))
theorem k_impl_reduced : chkF Try.prog Try.f86 16 c_impl_reduced [.c 4 (some 2)] = true := by kernel_rfl
theorem callC_impl_reduced {args : List AV} {σ : List AB} {K : AV → List AB → Prop} (hn : args.length ≤ 16) (hw : Closed σ → args.all (below1 σ.length) = true → wpC Try.prog σ.length 16 c_impl_reduced (retP σ.length [.c 4 (some 2)] K) ⟨initT 0 args, σ⟩) : CallWp Try.prog n_impl_reduced args σ K := call_fnC mixed Try.func86 k_impl_reduced hn hw
def l0_impl_ordered : LC := .seq (.ops [⟨some 12, none, .bin .lss (.t 11) (.t 10)⟩])
    (.seq (.cond (.t 12) (.skip)
    (.exit 0))
    (.seq (.block 1 (.seq (.ops [⟨some 13, none, .mv (.t 11)⟩,
      ⟨some 14, none, .ia 4 (.t 9) (.t 11)⟩,
      ⟨some 15, none, .ldn 4 (.t 14)⟩,
      ⟨some 8, none, .alloc ty_impl_Job [.i .i64 0, .i .i64 0, .i .i64 0, .i .i64 0]⟩,
      ⟨some 7, none, .mv (.t 13)⟩,
      ⟨none, none, .st 4 (.t 8) (.t 15)⟩])
    (.seq (.seq (.draw 22 [⟨some 16, none, .fa 0 (.t 8)⟩,
      ⟨some 17, none, .ld (.t 16)⟩,
      ⟨some 18, none, .mv (.t 1)⟩,
      ⟨some 19, none, .bin .sub (.t 18) (.k (.i .i64 1))⟩,
      ⟨some 20, none, .call (.k (.fn n_impl_in [] [])) [.t 17, .k (.i .i64 0), .t 19]⟩,
      ⟨some 21, none, .not (.t 20)⟩,
      ⟨some 22, none, .mv (.t 21)⟩,
      ⟨some 23, (some (22, false)), .fa 1 (.t 8)⟩,
      ⟨some 24, (some (22, false)), .ld (.t 23)⟩,
      ⟨some 25, (some (22, false)), .call (.k (.fn n_impl_in [] [])) [.t 24, .k (.i .i64 0), .k (.i .i64 119)]⟩,
      ⟨some 26, (some (22, false)), .not (.t 25)⟩,
      ⟨some 27, none, .pick (.t 22) (.k (.b true)) (.t 26)⟩,
      ⟨some 28, none, .mv (.t 27)⟩,
      ⟨some 29, (some (28, false)), .fa 3 (.t 8)⟩,
      ⟨some 30, (some (28, false)), .ld (.t 29)⟩,
      ⟨some 31, (some (28, false)), .mv (.t 2)⟩,
      ⟨some 32, (some (28, false)), .fa 0 (.t 8)⟩,
      ⟨some 33, (some (28, false)), .ld (.t 32)⟩,
      ⟨some 34, (some (28, false)), .call (.t 31) [.t 33]⟩,
      ⟨some 35, (some (28, false)), .call (.k (.fn n_impl_in [] [])) [.t 30, .k (.i .i64 1), .t 34]⟩,
      ⟨some 36, (some (28, false)), .not (.t 35)⟩,
      ⟨some 37, none, .pick (.t 28) (.k (.b true)) (.t 36)⟩])
    (.cond (.t 37) (.seq (.ops [⟨some 6, none, .mv (.k (.b false))⟩])
    (.ret))
    (.skip)))
    (.seq (.draw 35 [⟨some 38, none, .mv (.t 7)⟩,
      ⟨some 39, none, .bin .gtr (.t 38) (.k (.i .i64 0))⟩,
      ⟨some 40, none, .mv (.t 39)⟩,
      ⟨some 41, (some (40, true)), .mv (.t 0)⟩,
      ⟨some 42, (some (40, true)), .mv (.t 7)⟩,
      ⟨some 43, (some (40, true)), .bin .sub (.t 42) (.k (.i .i64 1))⟩,
      ⟨some 44, (some (40, true)), .ia 4 (.t 41) (.t 43)⟩,
      ⟨some 45, (some (40, true)), .fa 1 (.t 44)⟩,
      ⟨some 46, (some (40, true)), .ld (.t 45)⟩,
      ⟨some 47, (some (40, true)), .fa 1 (.t 8)⟩,
      ⟨some 48, (some (40, true)), .ld (.t 47)⟩,
      ⟨some 49, (some (40, true)), .bin .gtr (.t 46) (.t 48)⟩,
      ⟨some 50, (some (40, true)), .mv (.t 49)⟩,
      ⟨some 51, (some (50, false)), .mv (.t 0)⟩,
      ⟨some 52, (some (50, false)), .mv (.t 7)⟩,
      ⟨some 53, (some (50, false)), .bin .sub (.t 52) (.k (.i .i64 1))⟩,
      ⟨some 54, (some (50, false)), .ia 4 (.t 51) (.t 53)⟩,
      ⟨some 55, (some (50, false)), .fa 1 (.t 54)⟩,
      ⟨some 56, (some (50, false)), .ld (.t 55)⟩,
      ⟨some 57, (some (50, false)), .fa 1 (.t 8)⟩,
      ⟨some 58, (some (50, false)), .ld (.t 57)⟩,
      ⟨some 59, (some (50, false)), .bin .eql (.t 56) (.t 58)⟩,
      ⟨some 60, (some (50, false)), .mv (.t 59)⟩,
      ⟨some 61, (some (60, true)), .mv (.t 0)⟩,
      ⟨some 62, (some (60, true)), .mv (.t 7)⟩,
      ⟨some 63, (some (60, true)), .bin .sub (.t 62) (.k (.i .i64 1))⟩,
      ⟨some 64, (some (60, true)), .ia 4 (.t 61) (.t 63)⟩,
      ⟨some 65, (some (60, true)), .fa 0 (.t 64)⟩,
      ⟨some 66, (some (60, true)), .ld (.t 65)⟩,
      ⟨some 67, (some (60, true)), .fa 0 (.t 8)⟩,
      ⟨some 68, (some (60, true)), .ld (.t 67)⟩,
      ⟨some 69, (some (60, true)), .bin .geq (.t 66) (.t 68)⟩,
      ⟨some 70, (some (50, false)), .pick (.t 60) (.t 69) (.k (.b false))⟩,
      ⟨some 71, (some (40, true)), .pick (.t 50) (.k (.b true)) (.t 70)⟩,
      ⟨some 72, none, .pick (.t 40) (.t 71) (.k (.b false))⟩])
    (.cond (.t 72) (.seq (.ops [⟨some 6, none, .mv (.k (.b false))⟩])
    (.ret))
    (.skip))))))
    (.ops [⟨some 73, none, .bin .add (.t 11) (.k (.i .i64 1))⟩,
      ⟨some 11, none, .mv (.t 73)⟩])))
def c_impl_ordered : LC := .seq (.ops [⟨some 6, none, .mv (.k (.b false))⟩])
    (.seq (.seq (.ops [⟨some 9, none, .mv (.t 0)⟩,
      ⟨some 10, none, .len (.t 9)⟩,
      ⟨some 11, none, .mv (.k (.i .i64 0))⟩])
    (.block 0 (.loop l0_impl_ordered)))
    (.seq (.ops [⟨some 74, none, .mv (.t 0)⟩,
      ⟨some 75, none, .len (.t 74)⟩,
      ⟨some 76, none, .bin .leq (.t 75) (.k (.i .i64 60))⟩,
      ⟨some 6, none, .mv (.t 76)⟩])
    (.ret)))
theorem k_impl_ordered : chkF Try.prog Try.f87 77 c_impl_ordered [.t 6] = true := by kernel_rfl
theorem callC_impl_ordered {args : List AV} {σ : List AB} {K : AV → List AB → Prop} (hn : args.length ≤ 77) (hw : Closed σ → args.all (below1 σ.length) = true → wpC Try.prog σ.length 77 c_impl_ordered (retP σ.length [.t 6] K) ⟨initT 0 args, σ⟩) : CallWp Try.prog n_impl_ordered args σ K := call_fnC mixed Try.func87 k_impl_ordered hn hw
def c_impl_MixedLegal_1 : LC := .seq (.ops [⟨some 3, none, .mv (.k (.i .i64 0))⟩])
    (.seq (.ops [⟨some 4, none, .ld (.t 1)⟩,
      ⟨some 5, none, .mv (.t 0)⟩,
      ⟨some 6, none, .ia 4 (.t 4) (.t 5)⟩,
      ⟨some 7, none, .fa 1 (.t 6)⟩,
      ⟨some 8, none, .ld (.t 7)⟩,
      ⟨some 3, none, .mv (.t 8)⟩])
    (.ret))
theorem k_impl_MixedLegal_1 : chkF Try.prog Try.f88 9 c_impl_MixedLegal_1 [.t 3] = true := by kernel_rfl
theorem call_impl_MixedLegal_1 {args : List AV} {σ : List AB} {K : AV → List AB → Prop} (hn : args.length ≤ 9) (hw : wpC Try.prog σ.length 9 c_impl_MixedLegal_1 (retP σ.length [.t 3] K) ⟨initT 0 args, σ⟩) : CallWp Try.prog n_impl_MixedLegal_1 args σ K := call_fn mixed Try.func88 k_impl_MixedLegal_1 hn hw
def l0_impl_spaced : LC := .seq (.ops [⟨some 17, none, .bin .lss (.t 16) (.t 15)⟩])
    (.seq (.cond (.t 17) (.skip)
    (.exit 0))
    (.seq (.block 1 (.seq (.ops [⟨some 18, none, .ia 4 (.t 14) (.t 16)⟩,
      ⟨some 19, none, .ldn 4 (.t 18)⟩,
      ⟨some 9, none, .alloc ty_impl_Job [.i .i64 0, .i .i64 0, .i .i64 0, .i .i64 0]⟩,
      ⟨none, none, .st 4 (.t 9) (.t 19)⟩])
    (.seq (.ops [⟨some 20, none, .mv (.t 1)⟩,
      ⟨some 21, none, .ldn 4 (.t 9)⟩,
      ⟨some 22, none, .call (.t 20) [.t 21]⟩,
      ⟨some 10, none, .mv (.t 22)⟩])
    (.seq (.seq (.ops [⟨some 24, none, .mv (.t 7)⟩,
      ⟨some 25, none, .fa 0 (.t 9)⟩,
      ⟨some 26, none, .ld (.t 25)⟩,
      ⟨some 27, none, .lk 3 3 (.t 24) (.t 26)⟩,
      ⟨some 23, none, .mv (.t 27)⟩,
      ⟨some 28, none, .ext 0 (.t 23)⟩,
      ⟨some 29, none, .ext 1 (.t 23)⟩,
      ⟨some 11, none, .mv (.t 28)⟩,
      ⟨some 12, none, .mv (.t 29)⟩])
    (.seq (.ops [⟨some 30, none, .mv (.t 12)⟩,
      ⟨some 31, none, .mv (.t 30)⟩,
      ⟨some 32, (some (31, true)), .mv (.t 10)⟩,
      ⟨some 33, (some (31, true)), .mv (.t 11)⟩,
      ⟨some 34, (some (31, true)), .bin .sub (.t 32) (.t 33)⟩,
      ⟨some 35, (some (31, true)), .mv (.t 2)⟩,
      ⟨some 36, (some (31, true)), .fa 0 (.t 9)⟩,
      ⟨some 37, (some (31, true)), .ld (.t 36)⟩,
      ⟨some 38, (some (31, true)), .call (.t 35) [.t 37]⟩,
      ⟨some 39, (some (31, true)), .bin .lss (.t 34) (.t 38)⟩,
      ⟨some 40, none, .pick (.t 31) (.t 39) (.k (.b false))⟩])
    (.cond (.t 40) (.seq (.ops [⟨some 6, none, .mv (.k (.b false))⟩])
    (.ret))
    (.skip))))
    (.ops [⟨some 41, none, .mv (.t 7)⟩,
      ⟨some 42, none, .fa 0 (.t 9)⟩,
      ⟨some 43, none, .ld (.t 42)⟩,
      ⟨some 44, none, .mv (.t 10)⟩,
      ⟨none, none, .mup 3 3 (.t 41) (.t 43) (.t 44)⟩])))))
    (.ops [⟨some 45, none, .bin .add (.t 16) (.k (.i .i64 1))⟩,
      ⟨some 16, none, .mv (.t 45)⟩])))
def c_impl_spaced : LC := .seq (.ops [⟨some 6, none, .mv (.k (.b false))⟩])
    (.seq (.ops [⟨some 13, none, .mkm 3 3⟩,
      ⟨some 7, none, .mv (.t 13)⟩])
    (.seq (.seq (.ops [⟨some 14, none, .mv (.t 0)⟩,
      ⟨some 15, none, .len (.t 14)⟩,
      ⟨some 16, none, .mv (.k (.i .i64 0))⟩])
    (.block 0 (.loop l0_impl_spaced)))
    (.seq (.ops [⟨some 6, none, .mv (.k (.b true))⟩])
    (.ret))))
theorem k_impl_spaced : chkF Try.prog Try.f89 46 c_impl_spaced [.t 6] = true := by kernel_rfl
theorem callC_impl_spaced {args : List AV} {σ : List AB} {K : AV → List AB → Prop} (hn : args.length ≤ 46) (hw : Closed σ → args.all (below1 σ.length) = true → wpC Try.prog σ.length 46 c_impl_spaced (retP σ.length [.t 6] K) ⟨initT 0 args, σ⟩) : CallWp Try.prog n_impl_spaced args σ K := call_fnC mixed Try.func89 k_impl_spaced hn hw
def c_impl_release : LC := .seq (.ops [⟨some 1, none, .box ty_impl_Job (.t 0)⟩,
      ⟨some 2, none, .mv (.k (.i .i64 0))⟩])
    (.seq (.ops [⟨some 3, none, .fa 1 (.t 1)⟩,
      ⟨some 4, none, .ld (.t 3)⟩,
      ⟨some 2, none, .mv (.t 4)⟩])
    (.ret))
theorem k_impl_release : chkF Try.prog Try.f90 5 c_impl_release [.t 2] = true := by kernel_rfl
theorem call_impl_release {args : List AV} {σ : List AB} {K : AV → List AB → Prop} (hn : args.length ≤ 5) (hw : wpC Try.prog σ.length 5 c_impl_release (retP σ.length [.t 2] K) ⟨initT 0 args, σ⟩) : CallWp Try.prog n_impl_release args σ K := call_fn mixed Try.func90 k_impl_release hn hw
def c_impl_MixedLegal_2 : LC := .seq (.ops [⟨some 3, none, .mv (.k (.i .i64 0))⟩])
    (.seq (.ops [⟨some 4, none, .ld (.t 1)⟩,
      ⟨some 5, none, .mv (.t 0)⟩,
      ⟨some 6, none, .ia 4 (.t 4) (.t 5)⟩,
      ⟨some 7, none, .fa 2 (.t 6)⟩,
      ⟨some 8, none, .ld (.t 7)⟩,
      ⟨some 3, none, .mv (.t 8)⟩])
    (.ret))
theorem k_impl_MixedLegal_2 : chkF Try.prog Try.f91 9 c_impl_MixedLegal_2 [.t 3] = true := by kernel_rfl
theorem call_impl_MixedLegal_2 {args : List AV} {σ : List AB} {K : AV → List AB → Prop} (hn : args.length ≤ 9) (hw : wpC Try.prog σ.length 9 c_impl_MixedLegal_2 (retP σ.length [.t 3] K) ⟨initT 0 args, σ⟩) : CallWp Try.prog n_impl_MixedLegal_2 args σ K := call_fn mixed Try.func91 k_impl_MixedLegal_2 hn hw
def c_slices_ContainsFunc_impl_Job : LC := .seq (.ops [⟨some 4, none, .mv (.k (.b false))⟩])
    (.seq (.ops [⟨some 5, none, .mv (.t 0)⟩,
      ⟨some 6, none, .mv (.t 1)⟩,
      ⟨some 7, none, .call (.k (.fn n_slices_IndexFunc_impl_Job [] [])) [.t 5, .t 6]⟩,
      ⟨some 8, none, .bin .geq (.t 7) (.k (.i .i64 0))⟩,
      ⟨some 4, none, .mv (.t 8)⟩])
    (.ret))
theorem k_slices_ContainsFunc_impl_Job : chkF Try.prog Try.f92 9 c_slices_ContainsFunc_impl_Job [.t 4] = true := by kernel_rfl
theorem call_slices_ContainsFunc_impl_Job {args : List AV} {σ : List AB} {K : AV → List AB → Prop} (hn : args.length ≤ 9) (hw : wpC Try.prog σ.length 9 c_slices_ContainsFunc_impl_Job (retP σ.length [.t 4] K) ⟨initT 0 args, σ⟩) : CallWp Try.prog n_slices_ContainsFunc_impl_Job args σ K := call_fn mixed Try.func92 k_slices_ContainsFunc_impl_Job hn hw
def c_impl_MixedLegal_3 : LC := .seq (.ops [⟨some 2, none, .box ty_impl_Job (.t 0)⟩,
      ⟨some 3, none, .mv (.k (.b false))⟩])
    (.seq (.draw 12 [⟨some 4, none, .fa 2 (.t 2)⟩,
      ⟨some 5, none, .ld (.t 4)⟩,
      ⟨some 6, none, .fa 1 (.t 2)⟩,
      ⟨some 7, none, .ld (.t 6)⟩,
      ⟨some 8, none, .ld (.t 1)⟩,
      ⟨some 9, none, .fa 0 (.t 2)⟩,
      ⟨some 10, none, .ld (.t 9)⟩,
      ⟨some 11, none, .ia 4 (.t 8) (.t 10)⟩,
      ⟨some 12, none, .fa 2 (.t 11)⟩,
      ⟨some 13, none, .ld (.t 12)⟩,
      ⟨some 14, none, .bin .add (.t 7) (.t 13)⟩,
      ⟨some 15, none, .bin .neq (.t 5) (.t 14)⟩,
      ⟨some 3, none, .mv (.t 15)⟩])
    (.ret))
theorem k_impl_MixedLegal_3 : chkF Try.prog Try.f93 16 c_impl_MixedLegal_3 [.t 3] = true := by kernel_rfl
theorem callC_impl_MixedLegal_3 {args : List AV} {σ : List AB} {K : AV → List AB → Prop} (hn : args.length ≤ 16) (hw : Closed σ → args.all (below1 σ.length) = true → wpC Try.prog σ.length 16 c_impl_MixedLegal_3 (retP σ.length [.t 3] K) ⟨initT 0 args, σ⟩) : CallWp Try.prog n_impl_MixedLegal_3 args σ K := call_fnC mixed Try.func93 k_impl_MixedLegal_3 hn hw
def c_impl_mixed_pick_1 : LC := .seq (.ops [⟨some 4, none, .mv (.k (.b false))⟩])
    (.seq (.ops [⟨some 5, none, .ld (.t 1)⟩,
      ⟨some 6, none, .ld (.t 2)⟩,
      ⟨some 7, none, .mv (.t 0)⟩,
      ⟨some 8, none, .call (.k (.fn n_impl_mixed_vital [] [])) [.t 5, .t 6, .t 7]⟩,
      ⟨some 4, none, .mv (.t 8)⟩])
    (.ret))
theorem k_impl_mixed_pick_1 : chkF Try.prog Try.f94 9 c_impl_mixed_pick_1 [.t 4] = true := by kernel_rfl
theorem call_impl_mixed_pick_1 {args : List AV} {σ : List AB} {K : AV → List AB → Prop} (hn : args.length ≤ 9) (hw : wpC Try.prog σ.length 9 c_impl_mixed_pick_1 (retP σ.length [.t 4] K) ⟨initT 0 args, σ⟩) : CallWp Try.prog n_impl_mixed_pick_1 args σ K := call_fn mixed Try.func94 k_impl_mixed_pick_1 hn hw
def c_impl_mixed_vital : LC := .seq (.ops [⟨some 6, none, .mv (.k (.b false))⟩])
    (.seq (.draw 15 [⟨some 7, none, .mv (.t 0)⟩,
      ⟨some 8, none, .nilc (.t 7)⟩,
      ⟨some 9, none, .fa 0 (.t 8)⟩,
      ⟨some 10, none, .ld (.t 9)⟩,
      ⟨some 11, none, .mv (.t 1)⟩,
      ⟨some 12, none, .nilc (.t 11)⟩,
      ⟨some 13, none, .fa 0 (.t 12)⟩,
      ⟨some 14, none, .ld (.t 13)⟩,
      ⟨some 15, none, .mv (.t 2)⟩,
      ⟨some 16, none, .ia 4 (.t 14) (.t 15)⟩,
      ⟨some 17, none, .fa 0 (.t 16)⟩,
      ⟨some 18, none, .ld (.t 17)⟩,
      ⟨some 19, none, .ia 4 (.t 10) (.t 18)⟩,
      ⟨some 20, none, .fa 3 (.t 19)⟩,
      ⟨some 21, none, .ld (.t 20)⟩,
      ⟨some 6, none, .mv (.t 21)⟩])
    (.ret))
theorem k_impl_mixed_vital : chkF Try.prog Try.f95 22 c_impl_mixed_vital [.t 6] = true := by kernel_rfl
theorem call_impl_mixed_vital {args : List AV} {σ : List AB} {K : AV → List AB → Prop} (hn : args.length ≤ 22) (hw : wpC Try.prog σ.length 22 c_impl_mixed_vital (retP σ.length [.t 6] K) ⟨initT 0 args, σ⟩) : CallWp Try.prog n_impl_mixed_vital args σ K := call_fn mixed Try.func95 k_impl_mixed_vital hn hw
def l0_impl_machine_best : LC := .seq (.ops [⟨some 15, none, .bin .lss (.t 14) (.t 13)⟩])
    (.seq (.cond (.t 15) (.skip)
    (.exit 0))
    (.seq (.block 1 (.seq (.ops [⟨some 16, none, .mv (.t 14)⟩,
      ⟨some 8, none, .mv (.t 16)⟩])
    (.seq (.ops [⟨some 17, none, .mv (.t 0)⟩,
      ⟨some 18, none, .mv (.t 8)⟩,
      ⟨some 19, none, .call (.k (.fn n_impl_machine_ready [] [])) [.t 17, .t 18]⟩,
      ⟨some 20, none, .mv (.t 19)⟩,
      ⟨some 21, (some (20, true)), .mv (.t 2)⟩,
      ⟨some 22, (some (20, true)), .mv (.t 8)⟩,
      ⟨some 23, (some (20, true)), .call (.t 21) [.t 22]⟩,
      ⟨some 24, none, .pick (.t 20) (.t 23) (.k (.b false))⟩,
      ⟨some 25, none, .mv (.t 24)⟩,
      ⟨some 26, (some (25, true)), .mv (.t 7)⟩,
      ⟨some 27, (some (25, true)), .bin .lss (.t 26) (.k (.i .i64 0))⟩,
      ⟨some 28, (some (25, true)), .mv (.t 27)⟩,
      ⟨some 29, (some (28, false)), .mv (.t 1)⟩,
      ⟨some 30, (some (28, false)), .mv (.t 8)⟩,
      ⟨some 31, (some (28, false)), .call (.t 29) [.t 30]⟩,
      ⟨some 32, (some (28, false)), .mv (.t 1)⟩,
      ⟨some 33, (some (28, false)), .mv (.t 7)⟩,
      ⟨some 34, (some (28, false)), .call (.t 32) [.t 33]⟩,
      ⟨some 35, (some (28, false)), .bin .lss (.t 31) (.t 34)⟩,
      ⟨some 36, (some (25, true)), .pick (.t 28) (.k (.b true)) (.t 35)⟩,
      ⟨some 37, none, .pick (.t 25) (.t 36) (.k (.b false))⟩])
    (.cond (.t 37) (.ops [⟨some 38, none, .mv (.t 8)⟩,
      ⟨some 7, none, .mv (.t 38)⟩])
    (.skip)))))
    (.ops [⟨some 39, none, .bin .add (.t 14) (.k (.i .i64 1))⟩,
      ⟨some 14, none, .mv (.t 39)⟩])))
def c_impl_machine_best : LC := .seq (.ops [⟨some 6, none, .mv (.k (.i .i64 0))⟩])
    (.seq (.ops [⟨some 7, none, .mv (.k (.i .i64 (-1)))⟩])
    (.seq (.seq (.ops [⟨some 9, none, .mv (.t 0)⟩,
      ⟨some 10, none, .nilc (.t 9)⟩,
      ⟨some 11, none, .fa 0 (.t 10)⟩,
      ⟨some 12, none, .ld (.t 11)⟩,
      ⟨some 13, none, .len (.t 12)⟩,
      ⟨some 14, none, .mv (.k (.i .i64 0))⟩])
    (.block 0 (.loop l0_impl_machine_best)))
    (.seq (.ops [⟨some 40, none, .mv (.t 7)⟩,
      ⟨some 6, none, .mv (.t 40)⟩])
    (.ret))))
theorem k_impl_machine_best : chkF Try.prog Try.f96 41 c_impl_machine_best [.t 6] = true := by kernel_rfl
theorem call_impl_machine_best {args : List AV} {σ : List AB} {K : AV → List AB → Prop} (hn : args.length ≤ 41) (hw : wpC Try.prog σ.length 41 c_impl_machine_best (retP σ.length [.t 6] K) ⟨initT 0 args, σ⟩) : CallWp Try.prog n_impl_machine_best args σ K := call_fn mixed Try.func96 k_impl_machine_best hn hw
def c_impl_machine_deadline : LC := .seq (.ops [⟨some 4, none, .mv (.k (.i .i64 0))⟩])
    (.seq (.ops [⟨some 5, none, .mv (.t 0)⟩,
      ⟨some 6, none, .nilc (.t 5)⟩,
      ⟨some 7, none, .fa 0 (.t 6)⟩,
      ⟨some 8, none, .ld (.t 7)⟩,
      ⟨some 9, none, .mv (.t 1)⟩,
      ⟨some 10, none, .ia 4 (.t 8) (.t 9)⟩,
      ⟨some 11, none, .fa 2 (.t 10)⟩,
      ⟨some 12, none, .ld (.t 11)⟩,
      ⟨some 4, none, .mv (.t 12)⟩])
    (.ret))
theorem k_impl_machine_deadline : chkF Try.prog Try.f97 13 c_impl_machine_deadline [.t 4] = true := by kernel_rfl
theorem call_impl_machine_deadline {args : List AV} {σ : List AB} {K : AV → List AB → Prop} (hn : args.length ≤ 13) (hw : wpC Try.prog σ.length 13 c_impl_machine_deadline (retP σ.length [.t 4] K) ⟨initT 0 args, σ⟩) : CallWp Try.prog n_impl_machine_deadline args σ K := call_fn mixed Try.func97 k_impl_machine_deadline hn hw
def c_impl_mixed_pick_2 : LC := .seq (.ops [⟨some 5, none, .mv (.k (.i .i64 0))⟩])
    (.seq (.ops [⟨some 7, none, .ld (.t 1)⟩,
      ⟨some 8, none, .nilc (.t 7)⟩,
      ⟨some 9, none, .fa 0 (.t 8)⟩,
      ⟨some 10, none, .ld (.t 9)⟩,
      ⟨some 11, none, .mv (.t 0)⟩,
      ⟨some 12, none, .ia 4 (.t 10) (.t 11)⟩,
      ⟨some 13, none, .ldn 4 (.t 12)⟩,
      ⟨some 6, none, .alloc ty_impl_Job [.i .i64 0, .i .i64 0, .i .i64 0, .i .i64 0]⟩,
      ⟨none, none, .st 4 (.t 6) (.t 13)⟩])
    (.seq (.seq (.ops [⟨some 14, none, .ld (.t 2)⟩,
      ⟨some 15, none, .mv (.t 0)⟩,
      ⟨some 16, none, .call (.t 14) [.t 15]⟩])
    (.cond (.t 16) (.seq (.draw 24 [⟨some 17, none, .fa 1 (.t 6)⟩,
      ⟨some 18, none, .ld (.t 17)⟩,
      ⟨some 19, none, .ld (.t 3)⟩,
      ⟨some 20, none, .nilc (.t 19)⟩,
      ⟨some 21, none, .fa 1 (.t 20)⟩,
      ⟨some 22, none, .fa 1 (.t 21)⟩,
      ⟨some 23, none, .ld (.t 22)⟩,
      ⟨some 24, none, .bin .mul (.t 18) (.t 23)⟩,
      ⟨some 25, none, .ld (.t 3)⟩,
      ⟨some 26, none, .nilc (.t 25)⟩,
      ⟨some 27, none, .fa 0 (.t 26)⟩,
      ⟨some 28, none, .ld (.t 27)⟩,
      ⟨some 29, none, .fa 0 (.t 6)⟩,
      ⟨some 30, none, .ld (.t 29)⟩,
      ⟨some 31, none, .ia 4 (.t 28) (.t 30)⟩,
      ⟨some 32, none, .fa 2 (.t 31)⟩,
      ⟨some 33, none, .ld (.t 32)⟩,
      ⟨some 34, none, .ld (.t 3)⟩,
      ⟨some 35, none, .nilc (.t 34)⟩,
      ⟨some 36, none, .fa 1 (.t 35)⟩,
      ⟨some 37, none, .fa 0 (.t 36)⟩,
      ⟨some 38, none, .ld (.t 37)⟩,
      ⟨some 39, none, .bin .mul (.t 33) (.t 38)⟩,
      ⟨some 40, none, .bin .add (.t 24) (.t 39)⟩,
      ⟨some 5, none, .mv (.t 40)⟩])
    (.ret))
    (.skip)))
    (.seq (.draw 8 [⟨some 41, none, .fa 2 (.t 6)⟩,
      ⟨some 42, none, .ld (.t 41)⟩,
      ⟨some 43, none, .ld (.t 3)⟩,
      ⟨some 44, none, .nilc (.t 43)⟩,
      ⟨some 45, none, .fa 1 (.t 44)⟩,
      ⟨some 46, none, .fa 1 (.t 45)⟩,
      ⟨some 47, none, .ld (.t 46)⟩,
      ⟨some 48, none, .bin .mul (.t 42) (.t 47)⟩,
      ⟨some 5, none, .mv (.t 48)⟩])
    (.ret))))
theorem k_impl_mixed_pick_2 : chkF Try.prog Try.f98 49 c_impl_mixed_pick_2 [.t 5] = true := by kernel_rfl
theorem callC_impl_mixed_pick_2 {args : List AV} {σ : List AB} {K : AV → List AB → Prop} (hn : args.length ≤ 49) (hw : Closed σ → args.all (below1 σ.length) = true → wpC Try.prog σ.length 49 c_impl_mixed_pick_2 (retP σ.length [.t 5] K) ⟨initT 0 args, σ⟩) : CallWp Try.prog n_impl_mixed_pick_2 args σ K := call_fnC mixed Try.func98 k_impl_mixed_pick_2 hn hw
def c_impl_mixed_pick_3 : LC := .seq (.ops [⟨some 5, none, .mv (.k (.b false))⟩])
    (.seq (.draw 18 [⟨some 6, none, .ld (.t 1)⟩,
      ⟨some 7, none, .mv (.t 0)⟩,
      ⟨some 8, none, .call (.t 6) [.t 7]⟩,
      ⟨some 9, none, .mv (.t 8)⟩,
      ⟨some 10, (some (9, false)), .ld (.t 2)⟩,
      ⟨some 11, (some (9, false)), .nilc (.t 10)⟩,
      ⟨some 12, (some (9, false)), .fa 0 (.t 11)⟩,
      ⟨some 13, (some (9, false)), .ld (.t 12)⟩,
      ⟨some 14, (some (9, false)), .mv (.t 0)⟩,
      ⟨some 15, (some (9, false)), .ia 4 (.t 13) (.t 14)⟩,
      ⟨some 16, (some (9, false)), .fa 1 (.t 15)⟩,
      ⟨some 17, (some (9, false)), .ld (.t 16)⟩,
      ⟨some 18, (some (9, false)), .ld (.t 3)⟩,
      ⟨some 19, (some (9, false)), .nilc (.t 18)⟩,
      ⟨some 20, (some (9, false)), .fa 4 (.t 19)⟩,
      ⟨some 21, (some (9, false)), .ld (.t 20)⟩,
      ⟨some 22, (some (9, false)), .bin .geq (.t 17) (.t 21)⟩,
      ⟨some 23, none, .pick (.t 9) (.k (.b true)) (.t 22)⟩,
      ⟨some 5, none, .mv (.t 23)⟩])
    (.ret))
theorem k_impl_mixed_pick_3 : chkF Try.prog Try.f99 24 c_impl_mixed_pick_3 [.t 5] = true := by kernel_rfl
theorem call_impl_mixed_pick_3 {args : List AV} {σ : List AB} {K : AV → List AB → Prop} (hn : args.length ≤ 24) (hw : wpC Try.prog σ.length 24 c_impl_mixed_pick_3 (retP σ.length [.t 5] K) ⟨initT 0 args, σ⟩) : CallWp Try.prog n_impl_mixed_pick_3 args σ K := call_fn mixed Try.func99 k_impl_mixed_pick_3 hn hw
def l0_spec_l15Sums : LC := .seq (.seq (.ops [⟨some 34, none, .mv (.t 11)⟩,
      ⟨some 35, none, .mv (.t 0)⟩,
      ⟨some 36, none, .len (.t 35)⟩,
      ⟨some 37, none, .bin .lss (.t 34) (.t 36)⟩])
    (.cond (.t 37) (.skip)
    (.exit 2)))
    (.seq (.block 3 (.seq (.ops [⟨some 40, none, .mv (.t 6)⟩,
      ⟨some 41, none, .mv (.t 0)⟩,
      ⟨some 42, none, .mv (.t 11)⟩,
      ⟨some 43, none, .ia 4 (.t 41) (.t 42)⟩,
      ⟨some 44, none, .fa 2 (.t 43)⟩,
      ⟨some 45, none, .ld (.t 44)⟩,
      ⟨some 46, none, .bin .quo (.t 40) (.t 45)⟩,
      ⟨some 12, none, .mv (.t 46)⟩])
    (.seq (.ops [⟨some 47, none, .mv (.t 0)⟩,
      ⟨some 48, none, .mv (.t 11)⟩,
      ⟨some 49, none, .ia 4 (.t 47) (.t 48)⟩,
      ⟨some 50, none, .fa 3 (.t 49)⟩,
      ⟨some 51, none, .ld (.t 50)⟩])
    (.cond (.t 51) (.seq (.ops [⟨some 52, none, .mv (.t 9)⟩,
      ⟨some 53, none, .mv (.t 0)⟩,
      ⟨some 54, none, .mv (.t 11)⟩,
      ⟨some 55, none, .ia 4 (.t 53) (.t 54)⟩,
      ⟨some 56, none, .fa 0 (.t 55)⟩,
      ⟨some 57, none, .ld (.t 56)⟩,
      ⟨some 58, none, .mv (.t 12)⟩,
      ⟨some 59, none, .bin .mul (.t 57) (.t 58)⟩,
      ⟨some 60, none, .bin .add (.t 52) (.t 59)⟩,
      ⟨some 9, none, .mv (.t 60)⟩])
    (.ops [⟨some 61, none, .mv (.t 10)⟩,
      ⟨some 62, none, .mv (.t 0)⟩,
      ⟨some 63, none, .mv (.t 11)⟩,
      ⟨some 64, none, .ia 4 (.t 62) (.t 63)⟩,
      ⟨some 65, none, .fa 1 (.t 64)⟩,
      ⟨some 66, none, .ld (.t 65)⟩,
      ⟨some 67, none, .mv (.t 12)⟩,
      ⟨some 68, none, .bin .mul (.t 66) (.t 67)⟩,
      ⟨some 69, none, .bin .add (.t 61) (.t 68)⟩,
      ⟨some 10, none, .mv (.t 69)⟩]))
    (.ops [⟨some 70, none, .mv (.t 8)⟩,
      ⟨some 71, none, .mv (.t 0)⟩,
      ⟨some 72, none, .mv (.t 11)⟩,
      ⟨some 73, none, .ia 4 (.t 71) (.t 72)⟩,
      ⟨some 74, none, .fa 0 (.t 73)⟩,
      ⟨some 75, none, .ld (.t 74)⟩,
      ⟨some 76, none, .mv (.t 12)⟩,
      ⟨some 77, none, .bin .mul (.t 75) (.t 76)⟩,
      ⟨some 78, none, .bin .add (.t 70) (.t 77)⟩,
      ⟨some 8, none, .mv (.t 78)⟩])))))
    (.ops [⟨some 38, none, .mv (.t 11)⟩,
      ⟨some 39, none, .bin .add (.t 38) (.k (.i .i64 1))⟩,
      ⟨some 11, none, .mv (.t 39)⟩]))
def l1_spec_l15Sums : LC := .seq (.seq (.ops [⟨some 13, none, .mv (.t 7)⟩,
      ⟨some 14, none, .mv (.t 0)⟩,
      ⟨some 15, none, .len (.t 14)⟩,
      ⟨some 16, none, .bin .lss (.t 13) (.t 15)⟩])
    (.cond (.t 16) (.skip)
    (.exit 0)))
    (.seq (.block 1 (.draw 15 [⟨some 19, none, .mv (.t 6)⟩,
      ⟨some 20, none, .mv (.t 6)⟩,
      ⟨some 21, none, .mv (.t 0)⟩,
      ⟨some 22, none, .mv (.t 7)⟩,
      ⟨some 23, none, .ia 4 (.t 21) (.t 22)⟩,
      ⟨some 24, none, .fa 2 (.t 23)⟩,
      ⟨some 25, none, .ld (.t 24)⟩,
      ⟨some 26, none, .call (.k (.fn n_spec_l1Gcd [] [])) [.t 20, .t 25]⟩,
      ⟨some 27, none, .bin .quo (.t 19) (.t 26)⟩,
      ⟨some 28, none, .mv (.t 0)⟩,
      ⟨some 29, none, .mv (.t 7)⟩,
      ⟨some 30, none, .ia 4 (.t 28) (.t 29)⟩,
      ⟨some 31, none, .fa 2 (.t 30)⟩,
      ⟨some 32, none, .ld (.t 31)⟩,
      ⟨some 33, none, .bin .mul (.t 27) (.t 32)⟩,
      ⟨some 6, none, .mv (.t 33)⟩]))
    (.ops [⟨some 17, none, .mv (.t 7)⟩,
      ⟨some 18, none, .bin .add (.t 17) (.k (.i .i64 1))⟩,
      ⟨some 7, none, .mv (.t 18)⟩]))
def c_spec_l15Sums : LC := .seq (.ops [⟨some 2, none, .mv (.k (.i .i64 0))⟩,
      ⟨some 3, none, .mv (.k (.i .i64 0))⟩,
      ⟨some 4, none, .mv (.k (.i .i64 0))⟩,
      ⟨some 5, none, .mv (.k (.i .i64 0))⟩])
    (.seq (.ops [⟨some 6, none, .mv (.k (.i .i64 1))⟩])
    (.seq (.seq (.ops [⟨some 7, none, .mv (.k (.i .i64 0))⟩])
    (.block 0 (.loop l1_spec_l15Sums)))
    (.seq (.ops [⟨some 8, none, .mv (.k (.i .i64 0))⟩])
    (.seq (.ops [⟨some 9, none, .mv (.k (.i .i64 0))⟩])
    (.seq (.ops [⟨some 10, none, .mv (.k (.i .i64 0))⟩])
    (.seq (.seq (.ops [⟨some 11, none, .mv (.k (.i .i64 0))⟩])
    (.block 2 (.loop l0_spec_l15Sums)))
    (.seq (.ops [⟨some 79, none, .mv (.t 8)⟩,
      ⟨some 80, none, .mv (.t 9)⟩,
      ⟨some 81, none, .mv (.t 10)⟩,
      ⟨some 82, none, .mv (.t 6)⟩,
      ⟨some 2, none, .mv (.t 79)⟩,
      ⟨some 3, none, .mv (.t 80)⟩,
      ⟨some 4, none, .mv (.t 81)⟩,
      ⟨some 5, none, .mv (.t 82)⟩])
    (.ret))))))))
theorem k_spec_l15Sums : chkF Try.prog Try.f100 83 c_spec_l15Sums [.t 2, .t 3, .t 4, .t 5] = true := by kernel_rfl
theorem call_spec_l15Sums {args : List AV} {σ : List AB} {K : AV → List AB → Prop} (hn : args.length ≤ 83) (hw : wpC Try.prog σ.length 83 c_spec_l15Sums (retP σ.length [.t 2, .t 3, .t 4, .t 5] K) ⟨initT 0 args, σ⟩) : CallWp Try.prog n_spec_l15Sums args σ K := call_fn mixed Try.func100 k_spec_l15Sums hn hw
def l0_spec_l1Gcd : LC := .seq (.seq (.ops [⟨some 6, none, .mv (.t 1)⟩,
      ⟨some 7, none, .bin .gtr (.t 6) (.k (.i .i64 0))⟩])
    (.cond (.t 7) (.skip)
    (.exit 0)))
    (.block 1 (.seq (.ops [⟨some 8, none, .mv (.t 0)⟩,
      ⟨some 9, none, .mv (.t 1)⟩,
      ⟨some 10, none, .bin .rem (.t 8) (.t 9)⟩,
      ⟨some 5, none, .mv (.t 10)⟩])
    (.seq (.ops [⟨some 11, none, .mv (.t 1)⟩,
      ⟨some 0, none, .mv (.t 11)⟩])
    (.ops [⟨some 12, none, .mv (.t 5)⟩,
      ⟨some 1, none, .mv (.t 12)⟩]))))
def c_spec_l1Gcd : LC := .seq (.ops [⟨some 4, none, .mv (.k (.i .i64 0))⟩])
    (.seq (.block 0 (.loop l0_spec_l1Gcd))
    (.seq (.ops [⟨some 13, none, .mv (.t 0)⟩,
      ⟨some 4, none, .mv (.t 13)⟩])
    (.ret)))
theorem k_spec_l1Gcd : chkF Try.prog Try.f101 14 c_spec_l1Gcd [.t 4] = true := by kernel_rfl
theorem call_spec_l1Gcd {args : List AV} {σ : List AB} {K : AV → List AB → Prop} (hn : args.length ≤ 14) (hw : wpC Try.prog σ.length 14 c_spec_l1Gcd (retP σ.length [.t 4] K) ⟨initT 0 args, σ⟩) : CallWp Try.prog n_spec_l1Gcd args σ K := call_fn mixed Try.func101 k_spec_l1Gcd hn hw
def c_spec_l15Key : LC := .seq (.ops [⟨some 5, none, .box ty_impl_Job (.t 1)⟩,
      ⟨some 6, none, .box ty_impl_Fraction (.t 2)⟩,
      ⟨some 8, none, .mv (.k (.i .i64 0))⟩])
    (.seq (.seq (.ops [⟨some 9, none, .mv (.t 0)⟩,
      ⟨some 10, none, .fa 0 (.t 5)⟩,
      ⟨some 11, none, .ld (.t 10)⟩,
      ⟨some 12, none, .ia 4 (.t 9) (.t 11)⟩,
      ⟨some 13, none, .fa 3 (.t 12)⟩,
      ⟨some 14, none, .ld (.t 13)⟩,
      ⟨some 15, none, .not (.t 14)⟩,
      ⟨some 16, none, .mv (.t 15)⟩,
      ⟨some 17, (some (16, false)), .mv (.t 3)⟩,
      ⟨some 18, none, .pick (.t 16) (.k (.b true)) (.t 17)⟩])
    (.cond (.t 18) (.seq (.ops [⟨some 19, none, .fa 2 (.t 5)⟩,
      ⟨some 20, none, .ld (.t 19)⟩,
      ⟨some 21, none, .fa 1 (.t 6)⟩,
      ⟨some 22, none, .ld (.t 21)⟩,
      ⟨some 23, none, .bin .mul (.t 20) (.t 22)⟩,
      ⟨some 8, none, .mv (.t 23)⟩])
    (.ret))
    (.skip)))
    (.seq (.draw 15 [⟨some 24, none, .fa 1 (.t 5)⟩,
      ⟨some 25, none, .ld (.t 24)⟩,
      ⟨some 26, none, .fa 1 (.t 6)⟩,
      ⟨some 27, none, .ld (.t 26)⟩,
      ⟨some 28, none, .bin .mul (.t 25) (.t 27)⟩,
      ⟨some 29, none, .mv (.t 0)⟩,
      ⟨some 30, none, .fa 0 (.t 5)⟩,
      ⟨some 31, none, .ld (.t 30)⟩,
      ⟨some 32, none, .ia 4 (.t 29) (.t 31)⟩,
      ⟨some 33, none, .fa 2 (.t 32)⟩,
      ⟨some 34, none, .ld (.t 33)⟩,
      ⟨some 35, none, .fa 0 (.t 6)⟩,
      ⟨some 36, none, .ld (.t 35)⟩,
      ⟨some 37, none, .bin .mul (.t 34) (.t 36)⟩,
      ⟨some 38, none, .bin .add (.t 28) (.t 37)⟩,
      ⟨some 8, none, .mv (.t 38)⟩])
    (.ret)))
theorem k_spec_l15Key : chkF Try.prog Try.f102 39 c_spec_l15Key [.t 8] = true := by kernel_rfl
theorem call_spec_l15Key {args : List AV} {σ : List AB} {K : AV → List AB → Prop} (hn : args.length ≤ 39) (hw : wpC Try.prog σ.length 39 c_spec_l15Key (retP σ.length [.t 8] K) ⟨initT 0 args, σ⟩) : CallWp Try.prog n_spec_l15Key args σ K := call_fn mixed Try.func102 k_spec_l15Key hn hw
def c_impl_in : LC := .seq (.ops [⟨some 6, none, .mv (.k (.b false))⟩])
    (.seq (.ops [⟨some 7, none, .mv (.t 0)⟩,
      ⟨some 8, none, .mv (.t 1)⟩,
      ⟨some 9, none, .bin .geq (.t 7) (.t 8)⟩,
      ⟨some 10, none, .mv (.t 9)⟩,
      ⟨some 11, (some (10, true)), .mv (.t 0)⟩,
      ⟨some 12, (some (10, true)), .mv (.t 2)⟩,
      ⟨some 13, (some (10, true)), .bin .leq (.t 11) (.t 12)⟩,
      ⟨some 14, none, .pick (.t 10) (.t 13) (.k (.b false))⟩,
      ⟨some 6, none, .mv (.t 14)⟩])
    (.ret))
theorem k_impl_in : chkF Try.prog Try.f103 15 c_impl_in [.t 6] = true := by kernel_rfl
theorem call_impl_in {args : List AV} {σ : List AB} {K : AV → List AB → Prop} (hn : args.length ≤ 15) (hw : wpC Try.prog σ.length 15 c_impl_in (retP σ.length [.t 6] K) ⟨initT 0 args, σ⟩) : CallWp Try.prog n_impl_in args σ K := call_fn mixed Try.func103 k_impl_in hn hw
def c_slices_Clip_int : LC := .seq (.ops [⟨some 2, none, .mv (.k (.sn))⟩])
    (.seq (.ops [⟨some 3, none, .mv (.t 0)⟩,
      ⟨some 4, none, .mv (.t 0)⟩,
      ⟨some 5, none, .len (.t 4)⟩,
      ⟨some 6, none, .mv (.t 0)⟩,
      ⟨some 7, none, .len (.t 6)⟩,
      ⟨some 8, none, .slc 1 (.t 3) none (some (.t 5)) (some (.t 7))⟩,
      ⟨some 2, none, .mv (.t 8)⟩])
    (.ret))
theorem k_slices_Clip_int : chkF Try.prog Try.f104 9 c_slices_Clip_int [.t 2] = true := by kernel_rfl
theorem call_slices_Clip_int {args : List AV} {σ : List AB} {K : AV → List AB → Prop} (hn : args.length ≤ 9) (hw : wpC Try.prog σ.length 9 c_slices_Clip_int (retP σ.length [.t 2] K) ⟨initT 0 args, σ⟩) : CallWp Try.prog n_slices_Clip_int args σ K := call_fn mixed Try.func104 k_slices_Clip_int hn hw
def c_spec_TaskValid : LC := .seq (.ops [⟨some 1, none, .box ty_impl_Task (.t 0)⟩,
      ⟨some 2, none, .mv (.k (.b false))⟩])
    (.seq (.ops [⟨some 3, none, .fa 0 (.t 1)⟩,
      ⟨some 4, none, .ld (.t 3)⟩,
      ⟨some 5, none, .call (.k (.fn n_spec_l1In [] [])) [.t 4, .k (.i .i64 1), .k (.i .i64 8)]⟩,
      ⟨some 6, none, .mv (.t 5)⟩,
      ⟨some 7, (some (6, true)), .fa 1 (.t 1)⟩,
      ⟨some 8, (some (6, true)), .ld (.t 7)⟩,
      ⟨some 9, (some (6, true)), .fa 0 (.t 1)⟩,
      ⟨some 10, (some (6, true)), .ld (.t 9)⟩,
      ⟨some 11, (some (6, true)), .fa 2 (.t 1)⟩,
      ⟨some 12, (some (6, true)), .ld (.t 11)⟩,
      ⟨some 13, (some (6, true)), .call (.k (.fn n_spec_l1In [] [])) [.t 8, .t 10, .t 12]⟩,
      ⟨some 14, none, .pick (.t 6) (.t 13) (.k (.b false))⟩,
      ⟨some 15, none, .mv (.t 14)⟩,
      ⟨some 16, (some (15, true)), .fa 2 (.t 1)⟩,
      ⟨some 17, (some (15, true)), .ld (.t 16)⟩,
      ⟨some 18, (some (15, true)), .call (.k (.fn n_spec_l1In [] [])) [.t 17, .k (.i .i64 1), .k (.i .i64 12)]⟩,
      ⟨some 19, none, .pick (.t 15) (.t 18) (.k (.b false))⟩,
      ⟨some 2, none, .mv (.t 19)⟩])
    (.ret))
theorem k_spec_TaskValid : chkF Try.prog Try.f110 20 c_spec_TaskValid [.t 2] = true := by kernel_rfl
theorem call_spec_TaskValid {args : List AV} {σ : List AB} {K : AV → List AB → Prop} (hn : args.length ≤ 20) (hw : wpC Try.prog σ.length 20 c_spec_TaskValid (retP σ.length [.t 2] K) ⟨initT 0 args, σ⟩) : CallWp Try.prog n_spec_TaskValid args σ K := call_fn mixed Try.func110 k_spec_TaskValid hn hw
def l0_slices_Repeat_int : LC := .seq (.seq (.ops [⟨some 34, none, .mv (.t 8)⟩,
      ⟨some 35, none, .mv (.t 7)⟩,
      ⟨some 36, none, .len (.t 35)⟩,
      ⟨some 37, none, .bin .lss (.t 34) (.t 36)⟩])
    (.cond (.t 37) (.skip)
    (.exit 0)))
    (.block 1 (.plan [0, 1, 2, 3, 4, 5, 6] [⟨some 38, none, .mv (.t 8)⟩,
      ⟨some 39, none, .mv (.t 7)⟩,
      ⟨some 40, none, .mv (.t 8)⟩,
      ⟨some 41, none, .slc 1 (.t 39) (some (.t 40)) none none⟩,
      ⟨some 42, none, .mv (.t 7)⟩,
      ⟨some 43, none, .mv (.t 8)⟩,
      ⟨some 44, none, .slc 1 (.t 42) none (some (.t 43)) none⟩]
      (.one 7 ⟨some 45, none, .copy (.t 41) (.t 44)⟩ [] [8]
        [⟨some 46, none, .bin .add (.t 38) (.t 45)⟩]
      (.one 9 ⟨some 8, none, .mv (.t 46)⟩ [] []
        []
      .fin))))
def c_slices_Repeat_int : LC := .seq (.ops [⟨some 4, none, .mv (.k (.sn))⟩])
    (.seq (.seq (.ops [⟨some 9, none, .mv (.t 1)⟩,
      ⟨some 10, none, .bin .lss (.t 9) (.k (.i .i64 0))⟩])
    (.cond (.t 10) (.ops [⟨some 11, none, .die⟩,
      ⟨none, none, .die⟩])
    (.skip)))
    (.seq (.ops [⟨some 13, none, .mv (.t 0)⟩,
      ⟨some 14, none, .len (.t 13)⟩,
      ⟨some 15, none, .conv .u64 (.t 14)⟩,
      ⟨some 16, none, .mv (.t 1)⟩,
      ⟨some 17, none, .conv .u64 (.t 16)⟩,
      ⟨some 18, none, .call (.k (.fn n_math_bits_Mul [] [])) [.t 15, .t 17]⟩,
      ⟨some 12, none, .mv (.t 18)⟩,
      ⟨some 19, none, .ext 0 (.t 12)⟩,
      ⟨some 20, none, .ext 1 (.t 12)⟩,
      ⟨some 5, none, .mv (.t 19)⟩,
      ⟨some 6, none, .mv (.t 20)⟩])
    (.seq (.seq (.ops [⟨some 21, none, .mv (.t 5)⟩,
      ⟨some 22, none, .bin .gtr (.t 21) (.k (.i .u64 0))⟩,
      ⟨some 23, none, .mv (.t 22)⟩,
      ⟨some 24, (some (23, false)), .mv (.t 6)⟩,
      ⟨some 25, (some (23, false)), .bin .gtr (.t 24) (.k (.i .u64 9223372036854775807))⟩,
      ⟨some 26, none, .pick (.t 23) (.k (.b true)) (.t 25)⟩])
    (.cond (.t 26) (.ops [⟨some 27, none, .die⟩,
      ⟨none, none, .die⟩])
    (.skip)))
    (.seq (.ops [⟨some 28, none, .mv (.t 6)⟩,
      ⟨some 29, none, .conv .i64 (.t 28)⟩,
      ⟨some 30, none, .msl ty_int 8 [.i .i64 0] (.t 29)⟩,
      ⟨some 7, none, .mv (.t 30)⟩])
    (.seq (.ops [⟨some 31, none, .mv (.t 7)⟩,
      ⟨some 32, none, .mv (.t 0)⟩,
      ⟨some 33, none, .copy (.t 31) (.t 32)⟩,
      ⟨some 8, none, .mv (.t 33)⟩])
    (.seq (.block 0 (.loop l0_slices_Repeat_int))
    (.seq (.ops [⟨some 47, none, .mv (.t 7)⟩,
      ⟨some 4, none, .mv (.t 47)⟩])
    (.ret))))))))
theorem k_slices_Repeat_int : chkF Try.prog Try.f111 48 c_slices_Repeat_int [.t 4] = true := by kernel_rfl
theorem call_slices_Repeat_int {args : List AV} {σ : List AB} {K : AV → List AB → Prop} (hn : args.length ≤ 48) (hw : wpC Try.prog σ.length 48 c_slices_Repeat_int (retP σ.length [.t 4] K) ⟨initT 0 args, σ⟩) : CallWp Try.prog n_slices_Repeat_int args σ K := call_fn mixed Try.func111 k_slices_Repeat_int hn hw
def c_slices_ContainsFunc_impl_MixedTask : LC := .seq (.ops [⟨some 4, none, .mv (.k (.b false))⟩])
    (.seq (.ops [⟨some 5, none, .mv (.t 0)⟩,
      ⟨some 6, none, .mv (.t 1)⟩,
      ⟨some 7, none, .call (.k (.fn n_slices_IndexFunc_impl_MixedTask [] [])) [.t 5, .t 6]⟩,
      ⟨some 8, none, .bin .geq (.t 7) (.k (.i .i64 0))⟩,
      ⟨some 4, none, .mv (.t 8)⟩])
    (.ret))
theorem k_slices_ContainsFunc_impl_MixedTask : chkF Try.prog Try.f119 9 c_slices_ContainsFunc_impl_MixedTask [.t 4] = true := by kernel_rfl
theorem call_slices_ContainsFunc_impl_MixedTask {args : List AV} {σ : List AB} {K : AV → List AB → Prop} (hn : args.length ≤ 9) (hw : wpC Try.prog σ.length 9 c_slices_ContainsFunc_impl_MixedTask (retP σ.length [.t 4] K) ⟨initT 0 args, σ⟩) : CallWp Try.prog n_slices_ContainsFunc_impl_MixedTask args σ K := call_fn mixed Try.func119 k_slices_ContainsFunc_impl_MixedTask hn hw
def c_impl_MixedValid_1 : LC := .seq (.ops [⟨some 1, none, .box ty_impl_MixedTask (.t 0)⟩,
      ⟨some 2, none, .mv (.k (.b false))⟩])
    (.seq (.ops [⟨some 3, none, .fa 0 (.t 1)⟩,
      ⟨some 4, none, .ld (.t 3)⟩,
      ⟨some 5, none, .fa 1 (.t 1)⟩,
      ⟨some 6, none, .ld (.t 5)⟩,
      ⟨some 7, none, .mn (.t 6) (.k (.i .i64 8))⟩,
      ⟨some 8, none, .call (.k (.fn n_impl_in [] [])) [.t 4, .k (.i .i64 1), .t 7]⟩,
      ⟨some 9, none, .not (.t 8)⟩,
      ⟨some 10, none, .mv (.t 9)⟩,
      ⟨some 11, (some (10, false)), .fa 1 (.t 1)⟩,
      ⟨some 12, (some (10, false)), .ld (.t 11)⟩,
      ⟨some 13, (some (10, false)), .fa 2 (.t 1)⟩,
      ⟨some 14, (some (10, false)), .ld (.t 13)⟩,
      ⟨some 15, (some (10, false)), .bin .gtr (.t 12) (.t 14)⟩,
      ⟨some 16, none, .pick (.t 10) (.k (.b true)) (.t 15)⟩,
      ⟨some 17, none, .mv (.t 16)⟩,
      ⟨some 18, (some (17, false)), .fa 2 (.t 1)⟩,
      ⟨some 19, (some (17, false)), .ld (.t 18)⟩,
      ⟨some 20, (some (17, false)), .bin .gtr (.t 19) (.k (.i .i64 12))⟩,
      ⟨some 21, none, .pick (.t 17) (.k (.b true)) (.t 20)⟩,
      ⟨some 22, none, .mv (.t 21)⟩,
      ⟨some 23, (some (22, false)), .fa 3 (.t 1)⟩,
      ⟨some 24, (some (22, false)), .ld (.t 23)⟩,
      ⟨some 25, (some (22, false)), .not (.t 24)⟩,
      ⟨some 26, (some (22, false)), .mv (.t 25)⟩,
      ⟨some 27, (some (26, true)), .fa 1 (.t 1)⟩,
      ⟨some 28, (some (26, true)), .ld (.t 27)⟩,
      ⟨some 29, (some (26, true)), .fa 0 (.t 1)⟩,
      ⟨some 30, (some (26, true)), .ld (.t 29)⟩,
      ⟨some 31, (some (26, true)), .bin .neq (.t 28) (.t 30)⟩,
      ⟨some 32, (some (22, false)), .pick (.t 26) (.t 31) (.k (.b false))⟩,
      ⟨some 33, none, .pick (.t 22) (.k (.b true)) (.t 32)⟩,
      ⟨some 2, none, .mv (.t 33)⟩])
    (.ret))
theorem k_impl_MixedValid_1 : chkF Try.prog Try.f120 34 c_impl_MixedValid_1 [.t 2] = true := by kernel_rfl
theorem call_impl_MixedValid_1 {args : List AV} {σ : List AB} {K : AV → List AB → Prop} (hn : args.length ≤ 34) (hw : wpC Try.prog σ.length 34 c_impl_MixedValid_1 (retP σ.length [.t 2] K) ⟨initT 0 args, σ⟩) : CallWp Try.prog n_impl_MixedValid_1 args σ K := call_fn mixed Try.func120 k_impl_MixedValid_1 hn hw
def l0_impl_gcd : LC := .seq (.seq (.ops [⟨some 5, none, .mv (.t 1)⟩,
      ⟨some 6, none, .bin .neq (.t 5) (.k (.i .i64 0))⟩])
    (.cond (.t 6) (.skip)
    (.exit 0)))
    (.block 1 (.plan [0, 1, 2, 3] [⟨some 7, none, .mv (.t 1)⟩,
      ⟨some 8, none, .mv (.t 0)⟩,
      ⟨some 9, none, .mv (.t 1)⟩,
      ⟨some 10, none, .bin .rem (.t 8) (.t 9)⟩]
      (.one 4 ⟨some 0, none, .mv (.t 7)⟩ [] []
        []
      (.one 5 ⟨some 1, none, .mv (.t 10)⟩ [] []
        []
      .fin))))
def c_impl_gcd : LC := .seq (.ops [⟨some 4, none, .mv (.k (.i .i64 0))⟩])
    (.seq (.block 0 (.loop l0_impl_gcd))
    (.seq (.ops [⟨some 11, none, .mv (.t 0)⟩,
      ⟨some 4, none, .mv (.t 11)⟩])
    (.ret)))
theorem k_impl_gcd : chkF Try.prog Try.f121 12 c_impl_gcd [.t 4] = true := by kernel_rfl
theorem call_impl_gcd {args : List AV} {σ : List AB} {K : AV → List AB → Prop} (hn : args.length ≤ 12) (hw : wpC Try.prog σ.length 12 c_impl_gcd (retP σ.length [.t 4] K) ⟨initT 0 args, σ⟩) : CallWp Try.prog n_impl_gcd args σ K := call_fn mixed Try.func121 k_impl_gcd hn hw
def l0_slices_IndexFunc_impl_Job : LC := .seq (.ops [⟨some 9, none, .bin .lss (.t 8) (.t 7)⟩])
    (.seq (.cond (.t 9) (.skip)
    (.exit 0))
    (.seq (.block 1 (.seq (.ops [⟨some 10, none, .mv (.t 8)⟩,
      ⟨some 5, none, .mv (.t 10)⟩])
    (.seq (.ops [⟨some 11, none, .mv (.t 1)⟩,
      ⟨some 12, none, .mv (.t 0)⟩,
      ⟨some 13, none, .mv (.t 5)⟩,
      ⟨some 14, none, .ia 4 (.t 12) (.t 13)⟩,
      ⟨some 15, none, .ldn 4 (.t 14)⟩,
      ⟨some 16, none, .call (.t 11) [.t 15]⟩])
    (.cond (.t 16) (.seq (.ops [⟨some 17, none, .mv (.t 5)⟩,
      ⟨some 4, none, .mv (.t 17)⟩])
    (.ret))
    (.skip)))))
    (.ops [⟨some 18, none, .bin .add (.t 8) (.k (.i .i64 1))⟩,
      ⟨some 8, none, .mv (.t 18)⟩])))
def c_slices_IndexFunc_impl_Job : LC := .seq (.ops [⟨some 4, none, .mv (.k (.i .i64 0))⟩])
    (.seq (.seq (.ops [⟨some 6, none, .mv (.t 0)⟩,
      ⟨some 7, none, .len (.t 6)⟩,
      ⟨some 8, none, .mv (.k (.i .i64 0))⟩])
    (.block 0 (.loop l0_slices_IndexFunc_impl_Job)))
    (.seq (.ops [⟨some 4, none, .mv (.k (.i .i64 (-1)))⟩])
    (.ret)))
theorem k_slices_IndexFunc_impl_Job : chkF Try.prog Try.f122 19 c_slices_IndexFunc_impl_Job [.t 4] = true := by kernel_rfl
theorem call_slices_IndexFunc_impl_Job {args : List AV} {σ : List AB} {K : AV → List AB → Prop} (hn : args.length ≤ 19) (hw : wpC Try.prog σ.length 19 c_slices_IndexFunc_impl_Job (retP σ.length [.t 4] K) ⟨initT 0 args, σ⟩) : CallWp Try.prog n_slices_IndexFunc_impl_Job args σ K := call_fn mixed Try.func122 k_slices_IndexFunc_impl_Job hn hw
def c_math_bits_Mul : LC := .seq (.ops [⟨some 4, none, .mv (.k (.i .u64 0))⟩,
      ⟨some 5, none, .mv (.k (.i .u64 0))⟩])
    (.seq (.cond (.k (.b false)) (.seq (.ops [⟨some 11, none, .mv (.t 0)⟩,
      ⟨some 12, none, .conv .u32 (.t 11)⟩,
      ⟨some 13, none, .mv (.t 1)⟩,
      ⟨some 14, none, .conv .u32 (.t 13)⟩,
      ⟨some 15, none, .call (.k (.fn n_math_bits_Mul32 [] [])) [.t 12, .t 14]⟩,
      ⟨some 10, none, .mv (.t 15)⟩,
      ⟨some 16, none, .ext 0 (.t 10)⟩,
      ⟨some 17, none, .ext 1 (.t 10)⟩,
      ⟨some 6, none, .mv (.t 16)⟩,
      ⟨some 7, none, .mv (.t 17)⟩])
    (.seq (.ops [⟨some 18, none, .mv (.t 6)⟩,
      ⟨some 19, none, .conv .u64 (.t 18)⟩,
      ⟨some 20, none, .mv (.t 7)⟩,
      ⟨some 21, none, .conv .u64 (.t 20)⟩,
      ⟨some 4, none, .mv (.t 19)⟩,
      ⟨some 5, none, .mv (.t 21)⟩])
    (.ret)))
    (.skip))
    (.seq (.ops [⟨some 23, none, .mv (.t 0)⟩,
      ⟨some 24, none, .mv (.t 1)⟩,
      ⟨some 25, none, .call (.k (.fn n_math_bits_Mul64 [] [])) [.t 23, .t 24]⟩,
      ⟨some 22, none, .mv (.t 25)⟩,
      ⟨some 26, none, .ext 0 (.t 22)⟩,
      ⟨some 27, none, .ext 1 (.t 22)⟩,
      ⟨some 8, none, .mv (.t 26)⟩,
      ⟨some 9, none, .mv (.t 27)⟩])
    (.seq (.ops [⟨some 28, none, .mv (.t 8)⟩,
      ⟨some 29, none, .mv (.t 9)⟩,
      ⟨some 4, none, .mv (.t 28)⟩,
      ⟨some 5, none, .mv (.t 29)⟩])
    (.ret))))
theorem k_math_bits_Mul : chkF Try.prog Try.f123 30 c_math_bits_Mul [.t 4, .t 5] = true := by kernel_rfl
theorem call_math_bits_Mul {args : List AV} {σ : List AB} {K : AV → List AB → Prop} (hn : args.length ≤ 30) (hw : wpC Try.prog σ.length 30 c_math_bits_Mul (retP σ.length [.t 4, .t 5] K) ⟨initT 0 args, σ⟩) : CallWp Try.prog n_math_bits_Mul args σ K := call_fn mixed Try.func123 k_math_bits_Mul hn hw
def l0_slices_IndexFunc_impl_MixedTask : LC := .seq (.ops [⟨some 9, none, .bin .lss (.t 8) (.t 7)⟩])
    (.seq (.cond (.t 9) (.skip)
    (.exit 0))
    (.seq (.block 1 (.seq (.ops [⟨some 10, none, .mv (.t 8)⟩,
      ⟨some 5, none, .mv (.t 10)⟩])
    (.seq (.ops [⟨some 11, none, .mv (.t 1)⟩,
      ⟨some 12, none, .mv (.t 0)⟩,
      ⟨some 13, none, .mv (.t 5)⟩,
      ⟨some 14, none, .ia 4 (.t 12) (.t 13)⟩,
      ⟨some 15, none, .ldn 4 (.t 14)⟩,
      ⟨some 16, none, .call (.t 11) [.t 15]⟩])
    (.cond (.t 16) (.seq (.ops [⟨some 17, none, .mv (.t 5)⟩,
      ⟨some 4, none, .mv (.t 17)⟩])
    (.ret))
    (.skip)))))
    (.ops [⟨some 18, none, .bin .add (.t 8) (.k (.i .i64 1))⟩,
      ⟨some 8, none, .mv (.t 18)⟩])))
def c_slices_IndexFunc_impl_MixedTask : LC := .seq (.ops [⟨some 4, none, .mv (.k (.i .i64 0))⟩])
    (.seq (.seq (.ops [⟨some 6, none, .mv (.t 0)⟩,
      ⟨some 7, none, .len (.t 6)⟩,
      ⟨some 8, none, .mv (.k (.i .i64 0))⟩])
    (.block 0 (.loop l0_slices_IndexFunc_impl_MixedTask)))
    (.seq (.ops [⟨some 4, none, .mv (.k (.i .i64 (-1)))⟩])
    (.ret)))
theorem k_slices_IndexFunc_impl_MixedTask : chkF Try.prog Try.f127 19 c_slices_IndexFunc_impl_MixedTask [.t 4] = true := by kernel_rfl
theorem call_slices_IndexFunc_impl_MixedTask {args : List AV} {σ : List AB} {K : AV → List AB → Prop} (hn : args.length ≤ 19) (hw : wpC Try.prog σ.length 19 c_slices_IndexFunc_impl_MixedTask (retP σ.length [.t 4] K) ⟨initT 0 args, σ⟩) : CallWp Try.prog n_slices_IndexFunc_impl_MixedTask args σ K := call_fn mixed Try.func127 k_slices_IndexFunc_impl_MixedTask hn hw
def c_math_bits_Mul64 : LC := .seq (.ops [⟨some 4, none, .mv (.k (.i .u64 0))⟩,
      ⟨some 5, none, .mv (.k (.i .u64 0))⟩])
    (.seq (.ops [⟨some 14, none, .mv (.t 0)⟩,
      ⟨some 15, none, .bin .and (.t 14) (.k (.i .u64 4294967295))⟩,
      ⟨some 6, none, .mv (.t 15)⟩])
    (.seq (.ops [⟨some 16, none, .mv (.t 0)⟩,
      ⟨some 17, none, .shr (.t 16) (.k (.i .u64 32))⟩,
      ⟨some 7, none, .mv (.t 17)⟩])
    (.seq (.ops [⟨some 18, none, .mv (.t 1)⟩,
      ⟨some 19, none, .bin .and (.t 18) (.k (.i .u64 4294967295))⟩,
      ⟨some 8, none, .mv (.t 19)⟩])
    (.seq (.ops [⟨some 20, none, .mv (.t 1)⟩,
      ⟨some 21, none, .shr (.t 20) (.k (.i .u64 32))⟩,
      ⟨some 9, none, .mv (.t 21)⟩])
    (.seq (.ops [⟨some 22, none, .mv (.t 6)⟩,
      ⟨some 23, none, .mv (.t 8)⟩,
      ⟨some 24, none, .bin .mul (.t 22) (.t 23)⟩,
      ⟨some 10, none, .mv (.t 24)⟩])
    (.seq (.ops [⟨some 25, none, .mv (.t 7)⟩,
      ⟨some 26, none, .mv (.t 8)⟩,
      ⟨some 27, none, .bin .mul (.t 25) (.t 26)⟩,
      ⟨some 28, none, .mv (.t 10)⟩,
      ⟨some 29, none, .shr (.t 28) (.k (.i .u64 32))⟩,
      ⟨some 30, none, .bin .add (.t 27) (.t 29)⟩,
      ⟨some 11, none, .mv (.t 30)⟩])
    (.seq (.ops [⟨some 31, none, .mv (.t 11)⟩,
      ⟨some 32, none, .bin .and (.t 31) (.k (.i .u64 4294967295))⟩,
      ⟨some 12, none, .mv (.t 32)⟩])
    (.seq (.ops [⟨some 33, none, .mv (.t 11)⟩,
      ⟨some 34, none, .shr (.t 33) (.k (.i .u64 32))⟩,
      ⟨some 13, none, .mv (.t 34)⟩])
    (.seq (.ops [⟨some 35, none, .mv (.t 12)⟩,
      ⟨some 36, none, .mv (.t 6)⟩,
      ⟨some 37, none, .mv (.t 9)⟩,
      ⟨some 38, none, .bin .mul (.t 36) (.t 37)⟩,
      ⟨some 39, none, .bin .add (.t 35) (.t 38)⟩,
      ⟨some 12, none, .mv (.t 39)⟩])
    (.seq (.ops [⟨some 40, none, .mv (.t 7)⟩,
      ⟨some 41, none, .mv (.t 9)⟩,
      ⟨some 42, none, .bin .mul (.t 40) (.t 41)⟩,
      ⟨some 43, none, .mv (.t 13)⟩,
      ⟨some 44, none, .bin .add (.t 42) (.t 43)⟩,
      ⟨some 45, none, .mv (.t 12)⟩,
      ⟨some 46, none, .shr (.t 45) (.k (.i .u64 32))⟩,
      ⟨some 47, none, .bin .add (.t 44) (.t 46)⟩,
      ⟨some 4, none, .mv (.t 47)⟩])
    (.seq (.ops [⟨some 48, none, .mv (.t 0)⟩,
      ⟨some 49, none, .mv (.t 1)⟩,
      ⟨some 50, none, .bin .mul (.t 48) (.t 49)⟩,
      ⟨some 5, none, .mv (.t 50)⟩])
    (.ret))))))))))))
theorem k_math_bits_Mul64 : chkF Try.prog Try.f129 51 c_math_bits_Mul64 [.t 4, .t 5] = true := by kernel_rfl
theorem call_math_bits_Mul64 {args : List AV} {σ : List AB} {K : AV → List AB → Prop} (hn : args.length ≤ 51) (hw : wpC Try.prog σ.length 51 c_math_bits_Mul64 (retP σ.length [.t 4, .t 5] K) ⟨initT 0 args, σ⟩) : CallWp Try.prog n_math_bits_Mul64 args σ K := call_fn mixed Try.func129 k_math_bits_Mul64 hn hw
end Go.Proofs.Ytmphblbpofnpaaa
