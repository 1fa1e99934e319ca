/- Lowered code of Go functions, printed by a program of this session (lower.py), and that it is the loaded code: checked by the kernel. -/
import Derived.Test.YtklidlannicomaaProg
import Derived.Test.YtklidlannicomaaLowA
import Derived.KernelRfl
namespace Go.Proofs.Ytklidlannicomaa
open Go.Abs
set_option maxRecDepth 100000


-- loop.example/deadlinescheduler/impl.response
-- region 2 draws, 12 of 12 first
-- region 7 draws, 20 of 21 first
-- l1_impl_response: live at the head: 0 1 2 3 9
-- l0_impl_response: live at the head: 0 1 2 3 9 10 35 36 37
def l0_impl_response : LC := .seq (.ops [⟨some 38, none, .bin .lss (.t 37) (.t 36)⟩])
    (.seq (.cond (.t 38) (.skip)
    (.exit 2))
    (.seq (.block 3 (.seq (.ops [⟨some 39, none, .ia 1 (.t 35) (.t 37)⟩,
      ⟨some 40, none, .ld (.t 39)⟩,
      ⟨some 12, none, .mv (.t 40)⟩])
    (.draw 20 [⟨some 41, none, .mv (.t 10)⟩,
      ⟨some 42, none, .mv (.t 9)⟩,
      ⟨some 43, none, .mv (.t 1)⟩,
      ⟨some 44, none, .mv (.t 12)⟩,
      ⟨some 45, none, .ia 1 (.t 43) (.t 44)⟩,
      ⟨some 46, none, .ld (.t 45)⟩,
      ⟨some 47, none, .bin .add (.t 42) (.t 46)⟩,
      ⟨some 48, none, .mv (.t 0)⟩,
      ⟨some 49, none, .mv (.t 12)⟩,
      ⟨some 50, none, .ia 3 (.t 48) (.t 49)⟩,
      ⟨some 51, none, .fa 2 (.t 50)⟩,
      ⟨some 52, none, .ld (.t 51)⟩,
      ⟨some 53, none, .call (.k (.fn n_impl_ceil [] [])) [.t 47, .t 52]⟩,
      ⟨some 54, none, .mv (.t 0)⟩,
      ⟨some 55, none, .mv (.t 12)⟩,
      ⟨some 56, none, .ia 3 (.t 54) (.t 55)⟩,
      ⟨some 57, none, .fa 0 (.t 56)⟩,
      ⟨some 58, none, .ld (.t 57)⟩,
      ⟨some 59, none, .bin .mul (.t 53) (.t 58)⟩,
      ⟨some 60, none, .bin .add (.t 41) (.t 59)⟩,
      ⟨some 10, none, .mv (.t 60)⟩])))
    (.ops [⟨some 61, none, .bin .add (.t 37) (.k (.i .i64 1))⟩,
      ⟨some 37, none, .mv (.t 61)⟩])))
def l1_impl_response : LC := .seq (.seq (.draw 12 [⟨some 18, none, .mv (.t 9)⟩,
      ⟨some 19, none, .mv (.t 1)⟩,
      ⟨some 20, none, .mv (.t 2)⟩,
      ⟨some 21, none, .ia 1 (.t 19) (.t 20)⟩,
      ⟨some 22, none, .ld (.t 21)⟩,
      ⟨some 23, none, .bin .add (.t 18) (.t 22)⟩,
      ⟨some 24, none, .mv (.t 0)⟩,
      ⟨some 25, none, .mv (.t 2)⟩,
      ⟨some 26, none, .ia 3 (.t 24) (.t 25)⟩,
      ⟨some 27, none, .fa 1 (.t 26)⟩,
      ⟨some 28, none, .ld (.t 27)⟩,
      ⟨some 29, none, .bin .leq (.t 23) (.t 28)⟩])
    (.cond (.t 29) (.skip)
    (.exit 0)))
    (.block 1 (.seq (.ops [⟨some 30, none, .mv (.t 0)⟩,
      ⟨some 31, none, .mv (.t 2)⟩,
      ⟨some 32, none, .ia 3 (.t 30) (.t 31)⟩,
      ⟨some 33, none, .fa 0 (.t 32)⟩,
      ⟨some 34, none, .ld (.t 33)⟩,
      ⟨some 10, none, .mv (.t 34)⟩])
    (.seq (.seq (.ops [⟨some 35, none, .mv (.t 3)⟩,
      ⟨some 36, none, .len (.t 35)⟩,
      ⟨some 37, none, .mv (.k (.i .i64 0))⟩])
    (.block 2 (.loop l0_impl_response)))
    (.seq (.seq (.ops [⟨some 62, none, .mv (.t 10)⟩,
      ⟨some 63, none, .mv (.t 9)⟩,
      ⟨some 64, none, .bin .eql (.t 62) (.t 63)⟩])
    (.cond (.t 64) (.seq (.ops [⟨some 65, none, .mv (.t 9)⟩,
      ⟨some 66, none, .mv (.t 1)⟩,
      ⟨some 67, none, .mv (.t 2)⟩,
      ⟨some 68, none, .ia 1 (.t 66) (.t 67)⟩,
      ⟨some 69, none, .ld (.t 68)⟩,
      ⟨some 70, none, .bin .add (.t 65) (.t 69)⟩,
      ⟨some 8, none, .mv (.t 70)⟩])
    (.ret))
    (.skip)))
    (.ops [⟨some 71, none, .mv (.t 10)⟩,
      ⟨some 9, none, .mv (.t 71)⟩])))))
def c_impl_response : LC := .seq (.ops [⟨some 8, none, .mv (.k (.i .i64 0))⟩])
    (.seq (.seq (.ops [⟨some 13, none, .mv (.t 0)⟩,
      ⟨some 14, none, .mv (.t 2)⟩,
      ⟨some 15, none, .ia 3 (.t 13) (.t 14)⟩,
      ⟨some 16, none, .fa 0 (.t 15)⟩,
      ⟨some 17, none, .ld (.t 16)⟩,
      ⟨some 9, none, .mv (.t 17)⟩])
    (.block 0 (.loop l1_impl_response)))
    (.seq (.ops [⟨some 8, none, .mv (.k (.i .i64 (-1)))⟩])
    (.ret)))
theorem k_impl_response : chkF Try.prog Try.f70 72 c_impl_response [.t 8] = true := by kernel_rfl
theorem call_impl_response {args : List AV} {σ : List AB} {K : AV → List AB → Prop} (hn : args.length ≤ 72) (hw : wpC Try.prog σ.length 72 c_impl_response (retP σ.length [.t 8] K) ⟨initT 0 args, σ⟩) : CallWp Try.prog n_impl_response args σ K := call_fn mixed Try.func70 k_impl_response hn hw
theorem callC_impl_response {args : List AV} {σ : List AB} {K : AV → List AB → Prop} (hn : args.length ≤ 72) (hw : Closed σ → args.all (below1 σ.length) = true → wpC Try.prog σ.length 72 c_impl_response (retP σ.length [.t 8] K) ⟨initT 0 args, σ⟩) : CallWp Try.prog n_impl_response args σ K := call_fnC mixed Try.func70 k_impl_response hn hw

-- loop.example/deadlinescheduler/spec.l20Jobs
-- a cut
-- a cut
-- region 24: a plan with 2 orders
-- a cut
-- l2_spec_l20Jobs: live at the head: 0 1 2 7 8 9 10 37 38 39 42 43 44 45 46 47 48 49 50 51 93 94 95
-- l1_spec_l20Jobs: live at the head: 0 1 2 7 8 9 10 11 37 38 39 42 43 44 45 46 47 48 49 50 51 93 94 95
-- l0_spec_l20Jobs: live at the head: 7
def l0_spec_l20Jobs : LC := .seq (.seq (.ops [⟨some 103, none, .mv (.t 7)⟩,
      ⟨some 104, none, .len (.t 103)⟩,
      ⟨some 105, none, .bin .leq (.t 104) (.k (.i .i64 60))⟩])
    (.cond (.t 105) (.skip)
    (.exit 5)))
    (.block 6 (.ops [⟨some 106, none, .mv (.t 7)⟩,
      ⟨some 107, none, .build [.i .i64 0, .i .i64 0, .i .i64 0, .i .i64 0] [(1, 1, .k (.i .i64 119)), (2, 1, .k (.i .i64 120)), (3, 1, .k (.i .i64 1))]⟩,
      ⟨some 108, none, .bsl ty_impl_Job [.i .i64 0, .i .i64 0, .i .i64 0, .i .i64 0] 1 [(0, 4, .t 107)]⟩,
      ⟨some 109, none, .app ty_impl_Job 4 32 (.t 106) (.t 108)⟩,
      ⟨some 7, none, .mv (.t 109)⟩]))
def l1_spec_l20Jobs : LC := .seq (.seq (.ops [⟨some 24, none, .mv (.t 11)⟩,
      ⟨some 25, none, .mv (.t 1)⟩,
      ⟨some 26, none, .len (.t 25)⟩,
      ⟨some 27, none, .bin .lss (.t 24) (.t 26)⟩])
    (.cond (.t 27) (.skip)
    (.exit 2)))
    (.seq (.block 3 (.seq (.join (.ops [⟨some 30, none, .mv (.t 10)⟩,
      ⟨some 31, none, .mv (.t 8)⟩,
      ⟨some 32, none, .mv (.t 11)⟩,
      ⟨some 33, none, .ia 1 (.t 31) (.t 32)⟩,
      ⟨some 34, none, .ld (.t 33)⟩,
      ⟨some 35, none, .bin .lss (.t 30) (.t 34)⟩,
      ⟨some 36, none, .mv (.t 35)⟩,
      ⟨some 37, (some (36, false)), .mv (.t 7)⟩,
      ⟨some 38, (some (36, false)), .len (.t 37)⟩,
      ⟨some 39, (some (36, false)), .bin .eql (.t 38) (.k (.i .i64 60))⟩,
      ⟨some 40, none, .pick (.t 36) (.k (.b true)) (.t 39)⟩,
      ⟨some 41, none, .mv (.t 40)⟩,
      ⟨some 42, (some (41, false)), .mv (.t 9)⟩,
      ⟨some 43, (some (41, false)), .bin .lss (.t 42) (.k (.i .i64 2))⟩,
      ⟨some 44, (some (41, false)), .mv (.t 43)⟩,
      ⟨some 45, (some (44, true)), .mv (.t 0)⟩,
      ⟨some 46, (some (44, true)), .mv (.t 9)⟩,
      ⟨some 47, (some (44, true)), .bin .mul (.k (.i .i64 7)) (.t 46)⟩,
      ⟨some 48, (some (44, true)), .bin .add (.k (.i .i64 3)) (.t 47)⟩,
      ⟨some 49, (some (44, true)), .call (.k (.fn n_spec_l20Rd_pick [] [])) [.t 45, .t 48]⟩,
      ⟨some 50, (some (44, true)), .bin .gtr (.t 49) (.k (.i .i64 1))⟩,
      ⟨some 51, (some (41, false)), .pick (.t 44) (.t 50) (.k (.b false))⟩,
      ⟨some 52, none, .pick (.t 41) (.k (.b true)) (.t 51)⟩])
    (.cond (.t 52) (.exit 3)
    (.skip)))
    (.seq (.ops [⟨some 53, none, .mv (.t 1)⟩,
      ⟨some 54, none, .mv (.t 11)⟩,
      ⟨some 55, none, .ia 3 (.t 53) (.t 54)⟩,
      ⟨some 56, none, .fa 0 (.t 55)⟩,
      ⟨some 57, none, .ld (.t 56)⟩,
      ⟨some 12, none, .mv (.t 57)⟩])
    (.join (.seq (.ops [⟨some 58, none, .mv (.t 0)⟩,
      ⟨some 59, none, .call (.k (.fn n_spec_l20Rd_pick [] [])) [.t 58, .k (.i .i64 3)]⟩,
      ⟨some 60, none, .bin .eql (.t 59) (.k (.i .i64 0))⟩])
    (.cond (.t 60) (.ops [⟨some 61, none, .mv (.t 0)⟩,
      ⟨some 62, none, .mv (.t 12)⟩,
      ⟨some 63, none, .call (.k (.fn n_spec_l20Rd_pick [] [])) [.t 61, .t 62]⟩,
      ⟨some 64, none, .bin .add (.k (.i .i64 1)) (.t 63)⟩,
      ⟨some 12, none, .mv (.t 64)⟩])
    (.skip)))
    (.seq (.ops [⟨some 65, none, .mv (.t 7)⟩,
      ⟨some 66, none, .mv (.t 11)⟩,
      ⟨some 67, none, .mv (.t 10)⟩,
      ⟨some 68, none, .mv (.t 10)⟩,
      ⟨some 69, none, .mv (.t 1)⟩,
      ⟨some 70, none, .mv (.t 11)⟩,
      ⟨some 71, none, .ia 3 (.t 69) (.t 70)⟩,
      ⟨some 72, none, .fa 1 (.t 71)⟩,
      ⟨some 73, none, .ld (.t 72)⟩,
      ⟨some 74, none, .bin .add (.t 68) (.t 73)⟩,
      ⟨some 75, none, .mv (.t 12)⟩,
      ⟨some 76, none, .build [.i .i64 0, .i .i64 0, .i .i64 0, .i .i64 0] [(0, 1, .t 66), (1, 1, .t 67), (2, 1, .t 74), (3, 1, .t 75)]⟩,
      ⟨some 77, none, .bsl ty_impl_Job [.i .i64 0, .i .i64 0, .i .i64 0, .i .i64 0] 1 [(0, 4, .t 76)]⟩,
      ⟨some 78, none, .app ty_impl_Job 4 32 (.t 65) (.t 77)⟩,
      ⟨some 7, none, .mv (.t 78)⟩])
    (.ops [⟨some 79, none, .mv (.t 8)⟩,
      ⟨some 80, none, .mv (.t 11)⟩,
      ⟨some 81, none, .mv (.t 10)⟩,
      ⟨some 82, none, .mv (.t 1)⟩,
      ⟨some 83, none, .mv (.t 11)⟩,
      ⟨some 84, none, .ia 3 (.t 82) (.t 83)⟩,
      ⟨some 85, none, .fa 2 (.t 84)⟩,
      ⟨some 86, none, .ld (.t 85)⟩,
      ⟨some 87, none, .bin .add (.t 81) (.t 86)⟩,
      ⟨some 88, none, .ia 1 (.t 79) (.t 80)⟩,
      ⟨none, none, .st 1 (.t 88) (.t 87)⟩]))))))
    (.ops [⟨some 28, none, .mv (.t 11)⟩,
      ⟨some 29, none, .bin .add (.t 28) (.k (.i .i64 1))⟩,
      ⟨some 11, none, .mv (.t 29)⟩]))
def l2_spec_l20Jobs : LC := .seq (.seq (.ops [⟨some 20, none, .mv (.t 10)⟩,
      ⟨some 21, none, .bin .lss (.t 20) (.k (.i .i64 100))⟩])
    (.cond (.t 21) (.skip)
    (.exit 0)))
    (.seq (.block 1 (.seq (.ops [⟨some 11, none, .mv (.k (.i .i64 0))⟩])
    (.block 2 (.loop l1_spec_l20Jobs))))
    (.ops [⟨some 22, none, .mv (.t 10)⟩,
      ⟨some 23, none, .bin .add (.t 22) (.k (.i .i64 1))⟩,
      ⟨some 10, none, .mv (.t 23)⟩]))
def c_spec_l20Jobs : LC := .seq (.ops [⟨some 6, none, .mv (.k (.sn))⟩])
    (.seq (.ops [⟨some 14, none, .bsl ty_impl_Job [.i .i64 0, .i .i64 0, .i .i64 0, .i .i64 0] 0 []⟩,
      ⟨some 7, none, .mv (.t 14)⟩])
    (.seq (.ops [⟨some 15, none, .mv (.t 1)⟩,
      ⟨some 16, none, .len (.t 15)⟩,
      ⟨some 17, none, .msl ty_int 8 [.i .i64 0] (.t 16)⟩,
      ⟨some 8, none, .mv (.t 17)⟩])
    (.seq (.ops [⟨some 18, none, .mv (.t 0)⟩,
      ⟨some 19, none, .call (.k (.fn n_spec_l20Rd_pick [] [])) [.t 18, .k (.i .i64 3)]⟩,
      ⟨some 9, none, .mv (.t 19)⟩])
    (.seq (.seq (.ops [⟨some 10, none, .mv (.k (.i .i64 0))⟩])
    (.block 0 (.loop l2_spec_l20Jobs)))
    (.join (.seq (.ops [⟨some 89, none, .mv (.t 0)⟩,
      ⟨some 90, none, .mv (.t 2)⟩,
      ⟨some 91, none, .call (.k (.fn n_spec_l20Rd_odd [] [])) [.t 89, .t 90]⟩,
      ⟨some 92, none, .mv (.t 91)⟩,
      ⟨some 93, (some (92, true)), .mv (.t 7)⟩,
      ⟨some 94, (some (92, true)), .len (.t 93)⟩,
      ⟨some 95, (some (92, true)), .bin .gtr (.t 94) (.k (.i .i64 0))⟩,
      ⟨some 96, none, .pick (.t 92) (.t 95) (.k (.b false))⟩])
    (.cond (.t 96) (.seq (.ops [⟨some 97, none, .mv (.t 0)⟩,
      ⟨some 98, none, .mv (.t 7)⟩,
      ⟨some 99, none, .len (.t 98)⟩,
      ⟨some 100, none, .call (.k (.fn n_spec_l20Rd_pick [] [])) [.t 97, .t 99]⟩,
      ⟨some 13, none, .mv (.t 100)⟩])
    (.seq (.ops [⟨some 101, none, .mv (.t 0)⟩,
      ⟨some 102, none, .call (.k (.fn n_spec_l20Rd_pick [] [])) [.t 101, .k (.i .i64 6)]⟩])
    (.block 4 (.seq (.ops [⟨some 111, none, .bin .eql (.t 102) (.k (.i .i64 0))⟩,
      ⟨some 110, none, .mv (.t 111)⟩])
    (.cond (.t 110) (.ops [⟨some 112, none, .mv (.t 7)⟩,
      ⟨some 113, none, .mv (.t 13)⟩,
      ⟨some 114, none, .mv (.t 1)⟩,
      ⟨some 115, none, .len (.t 114)⟩,
      ⟨some 116, none, .bsl ty_int [.i .i64 0] 2 [(0, 1, .k (.i .i64 (-1))), (1, 1, .t 115)]⟩,
      ⟨some 117, none, .mv (.t 0)⟩,
      ⟨some 118, none, .call (.k (.fn n_spec_l20Rd_pick [] [])) [.t 117, .k (.i .i64 2)]⟩,
      ⟨some 119, none, .ia 1 (.t 116) (.t 118)⟩,
      ⟨some 120, none, .ld (.t 119)⟩,
      ⟨some 121, none, .ia 4 (.t 112) (.t 113)⟩,
      ⟨some 122, none, .fa 0 (.t 121)⟩,
      ⟨none, none, .st 1 (.t 122) (.t 120)⟩])
    (.seq (.ops [⟨some 124, none, .bin .eql (.t 102) (.k (.i .i64 1))⟩,
      ⟨some 123, none, .mv (.t 124)⟩])
    (.cond (.t 123) (.plan [0, 1, 2, 3, 4, 5, 6, 7, 9] [⟨some 125, none, .mv (.t 7)⟩,
      ⟨some 126, none, .mv (.t 13)⟩,
      ⟨some 127, none, .mv (.t 7)⟩,
      ⟨some 128, none, .mv (.t 13)⟩,
      ⟨some 129, none, .ia 4 (.t 127) (.t 128)⟩,
      ⟨some 130, none, .fa 1 (.t 129)⟩,
      ⟨some 131, none, .ld (.t 130)⟩,
      ⟨some 132, none, .bin .add (.t 131) (.k (.i .i64 1))⟩,
      ⟨some 134, none, .mv (.t 0)⟩]
      (.alt (.one 8 ⟨some 133, none, .bsl ty_int [.i .i64 0] 3 [(0, 1, .k (.i .i64 (-1))), (1, 1, .k (.i .i64 120)), (2, 1, .t 132)]⟩ [(131, none, 130)] []
        []
      (.one 10 ⟨some 135, none, .call (.k (.fn n_spec_l20Rd_pick [] [])) [.t 134, .k (.i .i64 3)]⟩ [(131, none, 130)] [11, 12, 13, 14]
        [⟨some 136, none, .ia 1 (.t 133) (.t 135)⟩,
        ⟨some 137, none, .ld (.t 136)⟩,
        ⟨some 138, none, .ia 4 (.t 125) (.t 126)⟩,
        ⟨some 139, none, .fa 1 (.t 138)⟩]
      (.one 15 ⟨none, none, .st 1 (.t 139) (.t 137)⟩ [] []
        []
      .fin))) (.one 10 ⟨some 135, none, .call (.k (.fn n_spec_l20Rd_pick [] [])) [.t 134, .k (.i .i64 3)]⟩ [(131, none, 130)] []
        []
      (.one 8 ⟨some 133, none, .bsl ty_int [.i .i64 0] 3 [(0, 1, .k (.i .i64 (-1))), (1, 1, .k (.i .i64 120)), (2, 1, .t 132)]⟩ [(131, none, 130)] [11, 12, 13, 14]
        [⟨some 136, none, .ia 1 (.t 133) (.t 135)⟩,
        ⟨some 137, none, .ld (.t 136)⟩,
        ⟨some 138, none, .ia 4 (.t 125) (.t 126)⟩,
        ⟨some 139, none, .fa 1 (.t 138)⟩]
      (.one 15 ⟨none, none, .st 1 (.t 139) (.t 137)⟩ [] []
        []
      .fin)))))
    (.seq (.ops [⟨some 141, none, .bin .eql (.t 102) (.k (.i .i64 2))⟩,
      ⟨some 140, none, .mv (.t 141)⟩])
    (.cond (.t 140) (.ops [⟨some 142, none, .mv (.t 7)⟩,
      ⟨some 143, none, .mv (.t 13)⟩,
      ⟨some 144, none, .mv (.t 7)⟩,
      ⟨some 145, none, .mv (.t 13)⟩,
      ⟨some 146, none, .ia 4 (.t 144) (.t 145)⟩,
      ⟨some 147, none, .fa 2 (.t 146)⟩,
      ⟨some 148, none, .ld (.t 147)⟩,
      ⟨some 149, none, .bin .add (.t 148) (.k (.i .i64 1))⟩,
      ⟨some 150, none, .ia 4 (.t 142) (.t 143)⟩,
      ⟨some 151, none, .fa 2 (.t 150)⟩,
      ⟨none, none, .st 1 (.t 151) (.t 149)⟩])
    (.seq (.ops [⟨some 153, none, .bin .eql (.t 102) (.k (.i .i64 3))⟩,
      ⟨some 152, none, .mv (.t 153)⟩])
    (.cond (.t 152) (.ops [⟨some 154, none, .mv (.t 7)⟩,
      ⟨some 155, none, .mv (.t 13)⟩,
      ⟨some 156, none, .bsl ty_int [.i .i64 0] 2 [(0, 1, .k (.i .i64 0)), (1, 1, .k (.i .i64 9))]⟩,
      ⟨some 157, none, .mv (.t 0)⟩,
      ⟨some 158, none, .call (.k (.fn n_spec_l20Rd_pick [] [])) [.t 157, .k (.i .i64 2)]⟩,
      ⟨some 159, none, .ia 1 (.t 156) (.t 158)⟩,
      ⟨some 160, none, .ld (.t 159)⟩,
      ⟨some 161, none, .ia 4 (.t 154) (.t 155)⟩,
      ⟨some 162, none, .fa 3 (.t 161)⟩,
      ⟨none, none, .st 1 (.t 162) (.t 160)⟩])
    (.seq (.ops [⟨some 164, none, .bin .eql (.t 102) (.k (.i .i64 4))⟩,
      ⟨some 163, none, .mv (.t 164)⟩])
    (.cond (.t 163) (.ops [⟨some 165, none, .mv (.t 7)⟩,
      ⟨some 166, none, .mv (.t 7)⟩,
      ⟨some 167, none, .mv (.t 13)⟩,
      ⟨some 168, none, .ia 4 (.t 166) (.t 167)⟩,
      ⟨some 169, none, .ldn 4 (.t 168)⟩,
      ⟨some 170, none, .bsl ty_impl_Job [.i .i64 0, .i .i64 0, .i .i64 0, .i .i64 0] 1 [(0, 4, .t 169)]⟩,
      ⟨some 171, none, .app ty_impl_Job 4 32 (.t 165) (.t 170)⟩,
      ⟨some 7, none, .mv (.t 171)⟩])
    (.block 5 (.loop l0_spec_l20Jobs)))))))))))))))
    (.skip)))
    (.seq (.ops [⟨some 172, none, .mv (.t 7)⟩,
      ⟨some 6, none, .mv (.t 172)⟩])
    (.ret)))))))
theorem k_spec_l20Jobs : chkF Try.prog Try.f71 173 c_spec_l20Jobs [.t 6] = true := by kernel_rfl
theorem call_spec_l20Jobs {args : List AV} {σ : List AB} {K : AV → List AB → Prop} (hn : args.length ≤ 173) (hw : wpC Try.prog σ.length 173 c_spec_l20Jobs (retP σ.length [.t 6] K) ⟨initT 0 args, σ⟩) : CallWp Try.prog n_spec_l20Jobs args σ K := call_fn mixed Try.func71 k_spec_l20Jobs hn hw
theorem callC_spec_l20Jobs {args : List AV} {σ : List AB} {K : AV → List AB → Prop} (hn : args.length ≤ 173) (hw : Closed σ → args.all (below1 σ.length) = true → wpC Try.prog σ.length 173 c_spec_l20Jobs (retP σ.length [.t 6] K) ⟨initT 0 args, σ⟩) : CallWp Try.prog n_spec_l20Jobs args σ K := call_fnC mixed Try.func71 k_spec_l20Jobs hn hw

-- slices.IndexFunc[[]loop.example/deadlinescheduler/impl.Job,loop.example/deadlinescheduler/impl.Job]
-- l0_slices_IndexFunc_impl_Job: live at the head: 0 1 7 8
def l0_slices_IndexFunc_impl_Job : LC := .seq (.ops [⟨some 9, none, .bin .lss (.t 8) (.t 7)⟩])
    (.seq (.cond (.t 9) (.skip)
    (.exit 0))
    (.seq (.block 1 (.seq (.ops [⟨some 10, none, .mv (.t 8)⟩,
      ⟨some 5, none, .mv (.t 10)⟩])
    (.seq (.ops [⟨some 11, none, .mv (.t 1)⟩,
      ⟨some 12, none, .mv (.t 0)⟩,
      ⟨some 13, none, .mv (.t 5)⟩,
      ⟨some 14, none, .ia 4 (.t 12) (.t 13)⟩,
      ⟨some 15, none, .ldn 4 (.t 14)⟩,
      ⟨some 16, none, .call (.t 11) [.t 15]⟩])
    (.cond (.t 16) (.seq (.ops [⟨some 17, none, .mv (.t 5)⟩,
      ⟨some 4, none, .mv (.t 17)⟩])
    (.ret))
    (.skip)))))
    (.ops [⟨some 18, none, .bin .add (.t 8) (.k (.i .i64 1))⟩,
      ⟨some 8, none, .mv (.t 18)⟩])))
def c_slices_IndexFunc_impl_Job : LC := .seq (.ops [⟨some 4, none, .mv (.k (.i .i64 0))⟩])
    (.seq (.seq (.ops [⟨some 6, none, .mv (.t 0)⟩,
      ⟨some 7, none, .len (.t 6)⟩,
      ⟨some 8, none, .mv (.k (.i .i64 0))⟩])
    (.block 0 (.loop l0_slices_IndexFunc_impl_Job)))
    (.seq (.ops [⟨some 4, none, .mv (.k (.i .i64 (-1)))⟩])
    (.ret)))
theorem k_slices_IndexFunc_impl_Job : chkF Try.prog Try.f72 19 c_slices_IndexFunc_impl_Job [.t 4] = true := by kernel_rfl
theorem call_slices_IndexFunc_impl_Job {args : List AV} {σ : List AB} {K : AV → List AB → Prop} (hn : args.length ≤ 19) (hw : wpC Try.prog σ.length 19 c_slices_IndexFunc_impl_Job (retP σ.length [.t 4] K) ⟨initT 0 args, σ⟩) : CallWp Try.prog n_slices_IndexFunc_impl_Job args σ K := call_fn mixed Try.func72 k_slices_IndexFunc_impl_Job hn hw
theorem callC_slices_IndexFunc_impl_Job {args : List AV} {σ : List AB} {K : AV → List AB → Prop} (hn : args.length ≤ 19) (hw : Closed σ → args.all (below1 σ.length) = true → wpC Try.prog σ.length 19 c_slices_IndexFunc_impl_Job (retP σ.length [.t 4] K) ⟨initT 0 args, σ⟩) : CallWp Try.prog n_slices_IndexFunc_impl_Job args σ K := call_fnC mixed Try.func72 k_slices_IndexFunc_impl_Job hn hw

-- slices.IndexFunc[[]loop.example/deadlinescheduler/impl.Task,loop.example/deadlinescheduler/impl.Task]
-- l0_slices_IndexFunc_impl_Task: live at the head: 0 1 7 8
def l0_slices_IndexFunc_impl_Task : LC := .seq (.ops [⟨some 9, none, .bin .lss (.t 8) (.t 7)⟩])
    (.seq (.cond (.t 9) (.skip)
    (.exit 0))
    (.seq (.block 1 (.seq (.ops [⟨some 10, none, .mv (.t 8)⟩,
      ⟨some 5, none, .mv (.t 10)⟩])
    (.seq (.ops [⟨some 11, none, .mv (.t 1)⟩,
      ⟨some 12, none, .mv (.t 0)⟩,
      ⟨some 13, none, .mv (.t 5)⟩,
      ⟨some 14, none, .ia 3 (.t 12) (.t 13)⟩,
      ⟨some 15, none, .ldn 3 (.t 14)⟩,
      ⟨some 16, none, .call (.t 11) [.t 15]⟩])
    (.cond (.t 16) (.seq (.ops [⟨some 17, none, .mv (.t 5)⟩,
      ⟨some 4, none, .mv (.t 17)⟩])
    (.ret))
    (.skip)))))
    (.ops [⟨some 18, none, .bin .add (.t 8) (.k (.i .i64 1))⟩,
      ⟨some 8, none, .mv (.t 18)⟩])))
def c_slices_IndexFunc_impl_Task : LC := .seq (.ops [⟨some 4, none, .mv (.k (.i .i64 0))⟩])
    (.seq (.seq (.ops [⟨some 6, none, .mv (.t 0)⟩,
      ⟨some 7, none, .len (.t 6)⟩,
      ⟨some 8, none, .mv (.k (.i .i64 0))⟩])
    (.block 0 (.loop l0_slices_IndexFunc_impl_Task)))
    (.seq (.ops [⟨some 4, none, .mv (.k (.i .i64 (-1)))⟩])
    (.ret)))
theorem k_slices_IndexFunc_impl_Task : chkF Try.prog Try.f73 19 c_slices_IndexFunc_impl_Task [.t 4] = true := by kernel_rfl
theorem call_slices_IndexFunc_impl_Task {args : List AV} {σ : List AB} {K : AV → List AB → Prop} (hn : args.length ≤ 19) (hw : wpC Try.prog σ.length 19 c_slices_IndexFunc_impl_Task (retP σ.length [.t 4] K) ⟨initT 0 args, σ⟩) : CallWp Try.prog n_slices_IndexFunc_impl_Task args σ K := call_fn mixed Try.func73 k_slices_IndexFunc_impl_Task hn hw
theorem callC_slices_IndexFunc_impl_Task {args : List AV} {σ : List AB} {K : AV → List AB → Prop} (hn : args.length ≤ 19) (hw : Closed σ → args.all (below1 σ.length) = true → wpC Try.prog σ.length 19 c_slices_IndexFunc_impl_Task (retP σ.length [.t 4] K) ⟨initT 0 args, σ⟩) : CallWp Try.prog n_slices_IndexFunc_impl_Task args σ K := call_fnC mixed Try.func73 k_slices_IndexFunc_impl_Task hn hw

-- loop.example/deadlinescheduler/impl.ceil
def c_impl_ceil : LC := .seq (.ops [⟨some 4, none, .mv (.k (.i .i64 0))⟩])
    (.seq (.ops [⟨some 5, none, .mv (.t 0)⟩,
      ⟨some 6, none, .mv (.t 1)⟩,
      ⟨some 7, none, .bin .add (.t 5) (.t 6)⟩,
      ⟨some 8, none, .bin .sub (.t 7) (.k (.i .i64 1))⟩,
      ⟨some 9, none, .mv (.t 1)⟩,
      ⟨some 10, none, .bin .quo (.t 8) (.t 9)⟩,
      ⟨some 4, none, .mv (.t 10)⟩])
    (.ret))
theorem k_impl_ceil : chkF Try.prog Try.f74 11 c_impl_ceil [.t 4] = true := by kernel_rfl
theorem call_impl_ceil {args : List AV} {σ : List AB} {K : AV → List AB → Prop} (hn : args.length ≤ 11) (hw : wpC Try.prog σ.length 11 c_impl_ceil (retP σ.length [.t 4] K) ⟨initT 0 args, σ⟩) : CallWp Try.prog n_impl_ceil args σ K := call_fn mixed Try.func74 k_impl_ceil hn hw
theorem callC_impl_ceil {args : List AV} {σ : List AB} {K : AV → List AB → Prop} (hn : args.length ≤ 11) (hw : Closed σ → args.all (below1 σ.length) = true → wpC Try.prog σ.length 11 c_impl_ceil (retP σ.length [.t 4] K) ⟨initT 0 args, σ⟩) : CallWp Try.prog n_impl_ceil args σ K := call_fnC mixed Try.func74 k_impl_ceil hn hw

end Go.Proofs.Ytklidlannicomaa
