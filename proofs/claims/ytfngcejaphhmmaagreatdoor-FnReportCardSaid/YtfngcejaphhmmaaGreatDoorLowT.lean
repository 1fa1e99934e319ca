import Derived.Test.YtfngcejaphhmmaaGreatDoorProg
import Derived.Test.YtfngcejaphhmmaaGreatDoorLow
import Derived.KernelRfl
namespace Go.Proofs.YtfngcejaphhmmaaGreatDoor
open Go.Abs
set_option maxRecDepth 100000
def l0_slices_insertionSortCmpFunc_int : LC := .seq (.seq (.draw 17 [⟨some 18, none, .mv (.t 9)⟩,
      ⟨some 19, none, .mv (.t 1)⟩,
      ⟨some 20, none, .bin .gtr (.t 18) (.t 19)⟩,
      ⟨some 21, none, .mv (.t 20)⟩,
      ⟨some 22, (some (21, true)), .mv (.t 3)⟩,
      ⟨some 23, (some (21, true)), .mv (.t 0)⟩,
      ⟨some 24, (some (21, true)), .mv (.t 9)⟩,
      ⟨some 25, (some (21, true)), .ia 1 (.t 23) (.t 24)⟩,
      ⟨some 26, (some (21, true)), .ld (.t 25)⟩,
      ⟨some 27, (some (21, true)), .mv (.t 0)⟩,
      ⟨some 28, (some (21, true)), .mv (.t 9)⟩,
      ⟨some 29, (some (21, true)), .bin .sub (.t 28) (.k (.i .i64 1))⟩,
      ⟨some 30, (some (21, true)), .ia 1 (.t 27) (.t 29)⟩,
      ⟨some 31, (some (21, true)), .ld (.t 30)⟩,
      ⟨some 32, (some (21, true)), .call (.t 22) [.t 26, .t 31]⟩,
      ⟨some 33, (some (21, true)), .bin .lss (.t 32) (.k (.i .i64 0))⟩,
      ⟨some 34, none, .pick (.t 21) (.t 33) (.k (.b false))⟩])
    (.cond (.t 34) (.skip)
    (.exit 2)))
    (.seq (.block 3 (.plan [0, 1, 2, 3, 4, 5, 6, 7, 8, 9, 10, 11, 12, 13, 14] [⟨some 37, none, .mv (.t 0)⟩,
      ⟨some 38, none, .mv (.t 9)⟩,
      ⟨some 39, none, .mv (.t 0)⟩,
      ⟨some 40, none, .mv (.t 9)⟩,
      ⟨some 41, none, .bin .sub (.t 40) (.k (.i .i64 1))⟩,
      ⟨some 42, none, .mv (.t 0)⟩,
      ⟨some 43, none, .mv (.t 9)⟩,
      ⟨some 44, none, .bin .sub (.t 43) (.k (.i .i64 1))⟩,
      ⟨some 45, none, .ia 1 (.t 42) (.t 44)⟩,
      ⟨some 46, none, .ld (.t 45)⟩,
      ⟨some 47, none, .mv (.t 0)⟩,
      ⟨some 48, none, .mv (.t 9)⟩,
      ⟨some 49, none, .ia 1 (.t 47) (.t 48)⟩,
      ⟨some 50, none, .ld (.t 49)⟩,
      ⟨some 51, none, .ia 1 (.t 37) (.t 38)⟩]
      (.one 15 ⟨none, none, .st 1 (.t 51) (.t 46)⟩ [] [16]
        [⟨some 52, none, .ia 1 (.t 39) (.t 41)⟩]
      (.one 17 ⟨none, none, .st 1 (.t 52) (.t 50)⟩ [] []
        []
      .fin))))
    (.ops [⟨some 35, none, .mv (.t 9)⟩,
      ⟨some 36, none, .bin .sub (.t 35) (.k (.i .i64 1))⟩,
      ⟨some 9, none, .mv (.t 36)⟩]))
def l1_slices_insertionSortCmpFunc_int : LC := .seq (.seq (.ops [⟨some 12, none, .mv (.t 8)⟩,
      ⟨some 13, none, .mv (.t 2)⟩,
      ⟨some 14, none, .bin .lss (.t 12) (.t 13)⟩])
    (.cond (.t 14) (.skip)
    (.exit 0)))
    (.seq (.block 1 (.seq (.ops [⟨some 17, none, .mv (.t 8)⟩,
      ⟨some 9, none, .mv (.t 17)⟩])
    (.block 2 (.loop l0_slices_insertionSortCmpFunc_int))))
    (.ops [⟨some 15, none, .mv (.t 8)⟩,
      ⟨some 16, none, .bin .add (.t 15) (.k (.i .i64 1))⟩,
      ⟨some 8, none, .mv (.t 16)⟩]))
def c_slices_insertionSortCmpFunc_int : LC := .seq (.ops [⟨some 10, none, .mv (.t 1)⟩,
      ⟨some 11, none, .bin .add (.t 10) (.k (.i .i64 1))⟩,
      ⟨some 8, none, .mv (.t 11)⟩])
    (.block 0 (.loop l1_slices_insertionSortCmpFunc_int))
theorem k_slices_insertionSortCmpFunc_int : chkF Tryz.prog Tryz.f95 53 c_slices_insertionSortCmpFunc_int [] = true := by kernel_rfl
theorem call_slices_insertionSortCmpFunc_int {args : List AV} {σ : List AB} {K : AV → List AB → Prop} (hn : args.length ≤ 53) (hw : wpC Tryz.prog σ.length 53 c_slices_insertionSortCmpFunc_int (retP σ.length [] K) ⟨initT 0 args, σ⟩) : CallWp Tryz.prog n_slices_insertionSortCmpFunc_int args σ K := call_fn mixed Tryz.func95 k_slices_insertionSortCmpFunc_int hn hw
def l0_slices_symMergeCmpFunc_int : LC := .seq (.seq (.ops [⟨some 149, none, .mv (.t 20)⟩,
      ⟨some 150, none, .mv (.t 21)⟩,
      ⟨some 151, none, .bin .lss (.t 149) (.t 150)⟩])
    (.cond (.t 151) (.skip)
    (.exit 8)))
    (.block 9 (.seq (.ops [⟨some 152, none, .mv (.t 20)⟩,
      ⟨some 153, none, .mv (.t 21)⟩,
      ⟨some 154, none, .bin .add (.t 152) (.t 153)⟩,
      ⟨some 155, none, .conv .u64 (.t 154)⟩,
      ⟨some 156, none, .shr (.t 155) (.k (.i .u64 1))⟩,
      ⟨some 157, none, .conv .i64 (.t 156)⟩,
      ⟨some 23, none, .mv (.t 157)⟩])
    (.seq (.draw 14 [⟨some 158, none, .mv (.t 4)⟩,
      ⟨some 159, none, .mv (.t 0)⟩,
      ⟨some 160, none, .mv (.t 22)⟩,
      ⟨some 161, none, .mv (.t 23)⟩,
      ⟨some 162, none, .bin .sub (.t 160) (.t 161)⟩,
      ⟨some 163, none, .ia 1 (.t 159) (.t 162)⟩,
      ⟨some 164, none, .ld (.t 163)⟩,
      ⟨some 165, none, .mv (.t 0)⟩,
      ⟨some 166, none, .mv (.t 23)⟩,
      ⟨some 167, none, .ia 1 (.t 165) (.t 166)⟩,
      ⟨some 168, none, .ld (.t 167)⟩,
      ⟨some 169, none, .call (.t 158) [.t 164, .t 168]⟩,
      ⟨some 170, none, .bin .lss (.t 169) (.k (.i .i64 0))⟩,
      ⟨some 171, none, .not (.t 170)⟩])
    (.cond (.t 171) (.ops [⟨some 172, none, .mv (.t 23)⟩,
      ⟨some 173, none, .bin .add (.t 172) (.k (.i .i64 1))⟩,
      ⟨some 20, none, .mv (.t 173)⟩])
    (.ops [⟨some 174, none, .mv (.t 23)⟩,
      ⟨some 21, none, .mv (.t 174)⟩])))))
def l1_slices_symMergeCmpFunc_int : LC := .seq (.seq (.ops [⟨some 108, none, .mv (.t 17)⟩,
      ⟨some 109, none, .mv (.t 14)⟩,
      ⟨some 110, none, .bin .gtr (.t 108) (.t 109)⟩])
    (.cond (.t 110) (.skip)
    (.exit 6)))
    (.seq (.block 7 (.plan [0, 1, 2, 3, 4, 5, 6, 7, 8, 9, 10, 11, 12, 13, 14] [⟨some 113, none, .mv (.t 0)⟩,
      ⟨some 114, none, .mv (.t 17)⟩,
      ⟨some 115, none, .mv (.t 0)⟩,
      ⟨some 116, none, .mv (.t 17)⟩,
      ⟨some 117, none, .bin .sub (.t 116) (.k (.i .i64 1))⟩,
      ⟨some 118, none, .mv (.t 0)⟩,
      ⟨some 119, none, .mv (.t 17)⟩,
      ⟨some 120, none, .bin .sub (.t 119) (.k (.i .i64 1))⟩,
      ⟨some 121, none, .ia 1 (.t 118) (.t 120)⟩,
      ⟨some 122, none, .ld (.t 121)⟩,
      ⟨some 123, none, .mv (.t 0)⟩,
      ⟨some 124, none, .mv (.t 17)⟩,
      ⟨some 125, none, .ia 1 (.t 123) (.t 124)⟩,
      ⟨some 126, none, .ld (.t 125)⟩,
      ⟨some 127, none, .ia 1 (.t 113) (.t 114)⟩]
      (.one 15 ⟨none, none, .st 1 (.t 127) (.t 122)⟩ [] [16]
        [⟨some 128, none, .ia 1 (.t 115) (.t 117)⟩]
      (.one 17 ⟨none, none, .st 1 (.t 128) (.t 126)⟩ [] []
        []
      .fin))))
    (.ops [⟨some 111, none, .mv (.t 17)⟩,
      ⟨some 112, none, .bin .sub (.t 111) (.k (.i .i64 1))⟩,
      ⟨some 17, none, .mv (.t 112)⟩]))
def l2_slices_symMergeCmpFunc_int : LC := .seq (.seq (.ops [⟨some 83, none, .mv (.t 14)⟩,
      ⟨some 84, none, .mv (.t 15)⟩,
      ⟨some 85, none, .bin .lss (.t 83) (.t 84)⟩])
    (.cond (.t 85) (.skip)
    (.exit 4)))
    (.block 5 (.seq (.ops [⟨some 86, none, .mv (.t 14)⟩,
      ⟨some 87, none, .mv (.t 15)⟩,
      ⟨some 88, none, .bin .add (.t 86) (.t 87)⟩,
      ⟨some 89, none, .conv .u64 (.t 88)⟩,
      ⟨some 90, none, .shr (.t 89) (.k (.i .u64 1))⟩,
      ⟨some 91, none, .conv .i64 (.t 90)⟩,
      ⟨some 16, none, .mv (.t 91)⟩])
    (.seq (.draw 12 [⟨some 92, none, .mv (.t 4)⟩,
      ⟨some 93, none, .mv (.t 0)⟩,
      ⟨some 94, none, .mv (.t 2)⟩,
      ⟨some 95, none, .ia 1 (.t 93) (.t 94)⟩,
      ⟨some 96, none, .ld (.t 95)⟩,
      ⟨some 97, none, .mv (.t 0)⟩,
      ⟨some 98, none, .mv (.t 16)⟩,
      ⟨some 99, none, .ia 1 (.t 97) (.t 98)⟩,
      ⟨some 100, none, .ld (.t 99)⟩,
      ⟨some 101, none, .call (.t 92) [.t 96, .t 100]⟩,
      ⟨some 102, none, .bin .lss (.t 101) (.k (.i .i64 0))⟩,
      ⟨some 103, none, .not (.t 102)⟩])
    (.cond (.t 103) (.ops [⟨some 104, none, .mv (.t 16)⟩,
      ⟨some 105, none, .bin .add (.t 104) (.k (.i .i64 1))⟩,
      ⟨some 14, none, .mv (.t 105)⟩])
    (.ops [⟨some 106, none, .mv (.t 16)⟩,
      ⟨some 15, none, .mv (.t 106)⟩])))))
def l3_slices_symMergeCmpFunc_int : LC := .seq (.seq (.ops [⟨some 55, none, .mv (.t 13)⟩,
      ⟨some 56, none, .mv (.t 10)⟩,
      ⟨some 57, none, .bin .sub (.t 56) (.k (.i .i64 1))⟩,
      ⟨some 58, none, .bin .lss (.t 55) (.t 57)⟩])
    (.cond (.t 58) (.skip)
    (.exit 2)))
    (.seq (.block 3 (.plan [0, 1, 2, 3, 4, 5, 6, 7, 8, 9, 10, 11, 12, 13, 14] [⟨some 61, none, .mv (.t 0)⟩,
      ⟨some 62, none, .mv (.t 13)⟩,
      ⟨some 63, none, .mv (.t 0)⟩,
      ⟨some 64, none, .mv (.t 13)⟩,
      ⟨some 65, none, .bin .add (.t 64) (.k (.i .i64 1))⟩,
      ⟨some 66, none, .mv (.t 0)⟩,
      ⟨some 67, none, .mv (.t 13)⟩,
      ⟨some 68, none, .bin .add (.t 67) (.k (.i .i64 1))⟩,
      ⟨some 69, none, .ia 1 (.t 66) (.t 68)⟩,
      ⟨some 70, none, .ld (.t 69)⟩,
      ⟨some 71, none, .mv (.t 0)⟩,
      ⟨some 72, none, .mv (.t 13)⟩,
      ⟨some 73, none, .ia 1 (.t 71) (.t 72)⟩,
      ⟨some 74, none, .ld (.t 73)⟩,
      ⟨some 75, none, .ia 1 (.t 61) (.t 62)⟩]
      (.one 15 ⟨none, none, .st 1 (.t 75) (.t 70)⟩ [] [16]
        [⟨some 76, none, .ia 1 (.t 63) (.t 65)⟩]
      (.one 17 ⟨none, none, .st 1 (.t 76) (.t 74)⟩ [] []
        []
      .fin))))
    (.ops [⟨some 59, none, .mv (.t 13)⟩,
      ⟨some 60, none, .bin .add (.t 59) (.k (.i .i64 1))⟩,
      ⟨some 13, none, .mv (.t 60)⟩]))
def l4_slices_symMergeCmpFunc_int : LC := .seq (.seq (.ops [⟨some 31, none, .mv (.t 10)⟩,
      ⟨some 32, none, .mv (.t 11)⟩,
      ⟨some 33, none, .bin .lss (.t 31) (.t 32)⟩])
    (.cond (.t 33) (.skip)
    (.exit 0)))
    (.block 1 (.seq (.ops [⟨some 34, none, .mv (.t 10)⟩,
      ⟨some 35, none, .mv (.t 11)⟩,
      ⟨some 36, none, .bin .add (.t 34) (.t 35)⟩,
      ⟨some 37, none, .conv .u64 (.t 36)⟩,
      ⟨some 38, none, .shr (.t 37) (.k (.i .u64 1))⟩,
      ⟨some 39, none, .conv .i64 (.t 38)⟩,
      ⟨some 12, none, .mv (.t 39)⟩])
    (.seq (.draw 11 [⟨some 40, none, .mv (.t 4)⟩,
      ⟨some 41, none, .mv (.t 0)⟩,
      ⟨some 42, none, .mv (.t 12)⟩,
      ⟨some 43, none, .ia 1 (.t 41) (.t 42)⟩,
      ⟨some 44, none, .ld (.t 43)⟩,
      ⟨some 45, none, .mv (.t 0)⟩,
      ⟨some 46, none, .mv (.t 1)⟩,
      ⟨some 47, none, .ia 1 (.t 45) (.t 46)⟩,
      ⟨some 48, none, .ld (.t 47)⟩,
      ⟨some 49, none, .call (.t 40) [.t 44, .t 48]⟩,
      ⟨some 50, none, .bin .lss (.t 49) (.k (.i .i64 0))⟩])
    (.cond (.t 50) (.ops [⟨some 51, none, .mv (.t 12)⟩,
      ⟨some 52, none, .bin .add (.t 51) (.k (.i .i64 1))⟩,
      ⟨some 10, none, .mv (.t 52)⟩])
    (.ops [⟨some 53, none, .mv (.t 12)⟩,
      ⟨some 11, none, .mv (.t 53)⟩])))))
def c_slices_symMergeCmpFunc_int : LC := .seq (.seq (.ops [⟨some 25, none, .mv (.t 2)⟩,
      ⟨some 26, none, .mv (.t 1)⟩,
      ⟨some 27, none, .bin .sub (.t 25) (.t 26)⟩,
      ⟨some 28, none, .bin .eql (.t 27) (.k (.i .i64 1))⟩])
    (.cond (.t 28) (.seq (.ops [⟨some 29, none, .mv (.t 2)⟩,
      ⟨some 10, none, .mv (.t 29)⟩])
    (.seq (.ops [⟨some 30, none, .mv (.t 3)⟩,
      ⟨some 11, none, .mv (.t 30)⟩])
    (.seq (.block 0 (.loop l4_slices_symMergeCmpFunc_int))
    (.seq (.seq (.ops [⟨some 54, none, .mv (.t 1)⟩,
      ⟨some 13, none, .mv (.t 54)⟩])
    (.block 2 (.loop l3_slices_symMergeCmpFunc_int)))
    (.ret)))))
    (.skip)))
    (.seq (.seq (.ops [⟨some 77, none, .mv (.t 3)⟩,
      ⟨some 78, none, .mv (.t 2)⟩,
      ⟨some 79, none, .bin .sub (.t 77) (.t 78)⟩,
      ⟨some 80, none, .bin .eql (.t 79) (.k (.i .i64 1))⟩])
    (.cond (.t 80) (.seq (.ops [⟨some 81, none, .mv (.t 1)⟩,
      ⟨some 14, none, .mv (.t 81)⟩])
    (.seq (.ops [⟨some 82, none, .mv (.t 2)⟩,
      ⟨some 15, none, .mv (.t 82)⟩])
    (.seq (.block 4 (.loop l2_slices_symMergeCmpFunc_int))
    (.seq (.seq (.ops [⟨some 107, none, .mv (.t 2)⟩,
      ⟨some 17, none, .mv (.t 107)⟩])
    (.block 6 (.loop l1_slices_symMergeCmpFunc_int)))
    (.ret)))))
    (.skip)))
    (.seq (.ops [⟨some 129, none, .mv (.t 1)⟩,
      ⟨some 130, none, .mv (.t 3)⟩,
      ⟨some 131, none, .bin .add (.t 129) (.t 130)⟩,
      ⟨some 132, none, .conv .u64 (.t 131)⟩,
      ⟨some 133, none, .shr (.t 132) (.k (.i .u64 1))⟩,
      ⟨some 134, none, .conv .i64 (.t 133)⟩,
      ⟨some 18, none, .mv (.t 134)⟩])
    (.seq (.ops [⟨some 135, none, .mv (.t 18)⟩,
      ⟨some 136, none, .mv (.t 2)⟩,
      ⟨some 137, none, .bin .add (.t 135) (.t 136)⟩,
      ⟨some 19, none, .mv (.t 137)⟩])
    (.seq (.ops [⟨some 20, none, .mv (.k (.i .i64 0))⟩,
      ⟨some 21, none, .mv (.k (.i .i64 0))⟩])
    (.join (.seq (.ops [⟨some 138, none, .mv (.t 2)⟩,
      ⟨some 139, none, .mv (.t 18)⟩,
      ⟨some 140, none, .bin .gtr (.t 138) (.t 139)⟩])
    (.cond (.t 140) (.seq (.ops [⟨some 141, none, .mv (.t 19)⟩,
      ⟨some 142, none, .mv (.t 3)⟩,
      ⟨some 143, none, .bin .sub (.t 141) (.t 142)⟩,
      ⟨some 20, none, .mv (.t 143)⟩])
    (.ops [⟨some 144, none, .mv (.t 18)⟩,
      ⟨some 21, none, .mv (.t 144)⟩]))
    (.seq (.ops [⟨some 145, none, .mv (.t 1)⟩,
      ⟨some 20, none, .mv (.t 145)⟩])
    (.ops [⟨some 146, none, .mv (.t 2)⟩,
      ⟨some 21, none, .mv (.t 146)⟩]))))
    (.seq (.ops [⟨some 147, none, .mv (.t 19)⟩,
      ⟨some 148, none, .bin .sub (.t 147) (.k (.i .i64 1))⟩,
      ⟨some 22, none, .mv (.t 148)⟩])
    (.seq (.block 8 (.loop l0_slices_symMergeCmpFunc_int))
    (.seq (.ops [⟨some 175, none, .mv (.t 19)⟩,
      ⟨some 176, none, .mv (.t 20)⟩,
      ⟨some 177, none, .bin .sub (.t 175) (.t 176)⟩,
      ⟨some 24, none, .mv (.t 177)⟩])
    (.join (.seq (.ops [⟨some 178, none, .mv (.t 20)⟩,
      ⟨some 179, none, .mv (.t 2)⟩,
      ⟨some 180, none, .bin .lss (.t 178) (.t 179)⟩,
      ⟨some 181, none, .mv (.t 180)⟩,
      ⟨some 182, (some (181, true)), .mv (.t 2)⟩,
      ⟨some 183, (some (181, true)), .mv (.t 24)⟩,
      ⟨some 184, (some (181, true)), .bin .lss (.t 182) (.t 183)⟩,
      ⟨some 185, none, .pick (.t 181) (.t 184) (.k (.b false))⟩])
    (.cond (.t 185) (.ops [⟨some 186, none, .mv (.t 0)⟩,
      ⟨some 187, none, .mv (.t 20)⟩,
      ⟨some 188, none, .mv (.t 2)⟩,
      ⟨some 189, none, .mv (.t 24)⟩,
      ⟨some 190, none, .mv (.t 4)⟩,
      ⟨some 191, none, .call (.k (.fn n_slices_rotateCmpFunc_int [] [])) [.t 186, .t 187, .t 188, .t 189, .t 190]⟩])
    (.skip)))
    (.join (.seq (.ops [⟨some 192, none, .mv (.t 1)⟩,
      ⟨some 193, none, .mv (.t 20)⟩,
      ⟨some 194, none, .bin .lss (.t 192) (.t 193)⟩,
      ⟨some 195, none, .mv (.t 194)⟩,
      ⟨some 196, (some (195, true)), .mv (.t 20)⟩,
      ⟨some 197, (some (195, true)), .mv (.t 18)⟩,
      ⟨some 198, (some (195, true)), .bin .lss (.t 196) (.t 197)⟩,
      ⟨some 199, none, .pick (.t 195) (.t 198) (.k (.b false))⟩])
    (.cond (.t 199) (.ops [⟨some 200, none, .mv (.t 0)⟩,
      ⟨some 201, none, .mv (.t 1)⟩,
      ⟨some 202, none, .mv (.t 20)⟩,
      ⟨some 203, none, .mv (.t 18)⟩,
      ⟨some 204, none, .mv (.t 4)⟩,
      ⟨some 205, none, .call (.k (.fn n_slices_symMergeCmpFunc_int [] [])) [.t 200, .t 201, .t 202, .t 203, .t 204]⟩])
    (.skip)))
    (.seq (.ops [⟨some 206, none, .mv (.t 18)⟩,
      ⟨some 207, none, .mv (.t 24)⟩,
      ⟨some 208, none, .bin .lss (.t 206) (.t 207)⟩,
      ⟨some 209, none, .mv (.t 208)⟩,
      ⟨some 210, (some (209, true)), .mv (.t 24)⟩,
      ⟨some 211, (some (209, true)), .mv (.t 3)⟩,
      ⟨some 212, (some (209, true)), .bin .lss (.t 210) (.t 211)⟩,
      ⟨some 213, none, .pick (.t 209) (.t 212) (.k (.b false))⟩])
    (.cond (.t 213) (.ops [⟨some 214, none, .mv (.t 0)⟩,
      ⟨some 215, none, .mv (.t 18)⟩,
      ⟨some 216, none, .mv (.t 24)⟩,
      ⟨some 217, none, .mv (.t 3)⟩,
      ⟨some 218, none, .mv (.t 4)⟩,
      ⟨some 219, none, .call (.k (.fn n_slices_symMergeCmpFunc_int [] [])) [.t 214, .t 215, .t 216, .t 217, .t 218]⟩])
    (.skip)))))))))))))
theorem k_slices_symMergeCmpFunc_int : chkF Tryz.prog Tryz.f96 220 c_slices_symMergeCmpFunc_int [] = true := by kernel_rfl
theorem call_slices_symMergeCmpFunc_int {args : List AV} {σ : List AB} {K : AV → List AB → Prop} (hn : args.length ≤ 220) (hw : wpC Tryz.prog σ.length 220 c_slices_symMergeCmpFunc_int (retP σ.length [] K) ⟨initT 0 args, σ⟩) : CallWp Tryz.prog n_slices_symMergeCmpFunc_int args σ K := call_fn mixed Tryz.func96 k_slices_symMergeCmpFunc_int hn hw
def l0_slices_swapRangeCmpFunc_int : LC := .seq (.seq (.ops [⟨some 11, none, .mv (.t 10)⟩,
      ⟨some 12, none, .mv (.t 3)⟩,
      ⟨some 13, none, .bin .lss (.t 11) (.t 12)⟩])
    (.cond (.t 13) (.skip)
    (.exit 0)))
    (.seq (.block 1 (.plan [0, 1, 2, 3, 4, 5, 6, 7, 8, 9, 10, 11, 12, 13, 14, 15, 16, 17, 18, 19, 20] [⟨some 16, none, .mv (.t 0)⟩,
      ⟨some 17, none, .mv (.t 1)⟩,
      ⟨some 18, none, .mv (.t 10)⟩,
      ⟨some 19, none, .bin .add (.t 17) (.t 18)⟩,
      ⟨some 20, none, .mv (.t 0)⟩,
      ⟨some 21, none, .mv (.t 2)⟩,
      ⟨some 22, none, .mv (.t 10)⟩,
      ⟨some 23, none, .bin .add (.t 21) (.t 22)⟩,
      ⟨some 24, none, .mv (.t 0)⟩,
      ⟨some 25, none, .mv (.t 2)⟩,
      ⟨some 26, none, .mv (.t 10)⟩,
      ⟨some 27, none, .bin .add (.t 25) (.t 26)⟩,
      ⟨some 28, none, .ia 1 (.t 24) (.t 27)⟩,
      ⟨some 29, none, .ld (.t 28)⟩,
      ⟨some 30, none, .mv (.t 0)⟩,
      ⟨some 31, none, .mv (.t 1)⟩,
      ⟨some 32, none, .mv (.t 10)⟩,
      ⟨some 33, none, .bin .add (.t 31) (.t 32)⟩,
      ⟨some 34, none, .ia 1 (.t 30) (.t 33)⟩,
      ⟨some 35, none, .ld (.t 34)⟩,
      ⟨some 36, none, .ia 1 (.t 16) (.t 19)⟩]
      (.one 21 ⟨none, none, .st 1 (.t 36) (.t 29)⟩ [] [22]
        [⟨some 37, none, .ia 1 (.t 20) (.t 23)⟩]
      (.one 23 ⟨none, none, .st 1 (.t 37) (.t 35)⟩ [] []
        []
      .fin))))
    (.ops [⟨some 14, none, .mv (.t 10)⟩,
      ⟨some 15, none, .bin .add (.t 14) (.k (.i .i64 1))⟩,
      ⟨some 10, none, .mv (.t 15)⟩]))
def c_slices_swapRangeCmpFunc_int : LC := .seq (.ops [⟨some 10, none, .mv (.k (.i .i64 0))⟩])
    (.block 0 (.loop l0_slices_swapRangeCmpFunc_int))
theorem k_slices_swapRangeCmpFunc_int : chkF Tryz.prog Tryz.f123 38 c_slices_swapRangeCmpFunc_int [] = true := by kernel_rfl
theorem call_slices_swapRangeCmpFunc_int {args : List AV} {σ : List AB} {K : AV → List AB → Prop} (hn : args.length ≤ 38) (hw : wpC Tryz.prog σ.length 38 c_slices_swapRangeCmpFunc_int (retP σ.length [] K) ⟨initT 0 args, σ⟩) : CallWp Tryz.prog n_slices_swapRangeCmpFunc_int args σ K := call_fn mixed Tryz.func123 k_slices_swapRangeCmpFunc_int hn hw
end Go.Proofs.YtfngcejaphhmmaaGreatDoor
