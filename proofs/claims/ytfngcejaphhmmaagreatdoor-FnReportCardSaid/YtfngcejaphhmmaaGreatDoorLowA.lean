import Derived.Test.YtfngcejaphhmmaaGreatDoorProg
import Derived.Test.YtfngcejaphhmmaaGreatDoorAbsY
import Derived.KernelRfl
namespace Go.Proofs.YtfngcejaphhmmaaGreatDoor
open Go.Abs
set_option maxRecDepth 100000
theorem mixed : Tryz.prog.follows .mixedOrders = true := by kernel_rfl
abbrev n_laws_FnReport : Nat := 3
abbrev n_spec_DrawReport : Nat := 4
abbrev n_impl_Report : Nat := 5
abbrev n_laws_sameStrings : Nat := 6
abbrev n_spec_Report : Nat := 7
abbrev n_impl_ParseTask : Nat := 8
abbrev n_laws_alive : Nat := 9
abbrev n_impl_EdfFeasible : Nat := 10
abbrev n_impl_MinCores : Nat := 11
abbrev n_spec_l20Open : Nat := 12
abbrev n_spec_l20Set : Nat := 13
abbrev n_spec_FormatTask : Nat := 14
abbrev n_spec_l20Rd_odd : Nat := 15
abbrev n_spec_l20Rd_pick : Nat := 16
abbrev n_strconv_Itoa : Nat := 17
abbrev n_impl_Utilization : Nat := 18
abbrev n_impl_FirstOverload : Nat := 19
abbrev n_impl_ResponseTimes : Nat := 20
abbrev n_impl_DeadlineMonotonic : Nat := 21
abbrev n_spec_ParseTask : Nat := 22
abbrev n_spec_l10Plain : Nat := 23
abbrev n_spec_Utilization : Nat := 24
abbrev n_spec_FirstOverload : Nat := 25
abbrev n_spec_l10Times : Nat := 26
abbrev n_spec_ResponseTimes : Nat := 27
abbrev n_spec_DeadlineMonotonic : Nat := 28
abbrev n_spec_MinCores : Nat := 29
abbrev n_strings_Split : Nat := 30
abbrev n_impl_ParseTask_1 : Nat := 31
abbrev n_strconv_Atoi : Nat := 32
abbrev n_impl_FormatTask : Nat := 33
abbrev n_impl_TaskValid : Nat := 34
abbrev n_impl_SetValid : Nat := 35
abbrev n_impl_feasible : Nat := 36
abbrev n_impl_Partition : Nat := 37
abbrev n_spec_l20Task : Nat := 38
abbrev n_spec_TaskValid : Nat := 39
abbrev n_impl_reduced : Nat := 41
abbrev n_impl_load : Nat := 42
abbrev n_impl_hyper : Nat := 43
abbrev n_impl_demand : Nat := 44
abbrev n_impl_OrderValid : Nat := 45
abbrev n_impl_responses : Nat := 46
abbrev n_impl_indices : Nat := 47
abbrev n_slices_SortStableFunc_int : Nat := 48
abbrev n_impl_DeadlineMonotonic_1 : Nat := 49
abbrev n_spec_l10Fields : Nat := 50
abbrev n_spec_l10Num : Nat := 51
abbrev n_spec_SetValid : Nat := 52
abbrev n_spec_l1Hyper : Nat := 53
abbrev n_spec_l1Gcd : Nat := 54
abbrev n_spec_l2Overload : Nat := 55
abbrev n_spec_OrderValid : Nat := 56
abbrev n_spec_l4Response : Nat := 57
abbrev n_spec_l7Search : Nat := 58
abbrev n_impl_in : Nat := 62
abbrev n_slices_ContainsFunc_impl_Task : Nat := 63
abbrev n_impl_SetValid_1 : Nat := 64
abbrev n_impl_isCores : Nat := 65
abbrev n_impl_none : Nat := 66
abbrev n_impl_search : Nat := 67
abbrev n_spec_l1In : Nat := 68
abbrev n_impl_gcd : Nat := 70
abbrev n_impl_lcm : Nat := 71
abbrev n_slices_Index_int : Nat := 72
abbrev n_impl_response : Nat := 73
abbrev n_slices_stableCmpFunc_int : Nat := 74
abbrev n_spec_l2Demand : Nat := 75
abbrev n_spec_l4Index : Nat := 76
abbrev n_spec_l2Edf : Nat := 77
abbrev n_spec_l7On : Nat := 78
abbrev n_slices_IndexFunc_impl_Task : Nat := 87
abbrev n_slices_Repeat_int : Nat := 88
abbrev n_impl_onCore : Nat := 89
abbrev n_impl_ceil : Nat := 94
abbrev n_slices_insertionSortCmpFunc_int : Nat := 95
abbrev n_slices_symMergeCmpFunc_int : Nat := 96
abbrev n_math_bits_Mul : Nat := 104
abbrev n_slices_Clip_impl_Task : Nat := 105
abbrev n_slices_rotateCmpFunc_int : Nat := 111
abbrev n_math_bits_Mul32 : Nat := 119
abbrev n_math_bits_Mul64 : Nat := 120
abbrev n_slices_swapRangeCmpFunc_int : Nat := 123
abbrev ty_int : Nat := 3
abbrev ty_uint8 : Nat := 5
abbrev ty_string : Nat := 9
abbrev ty_sl_string : Nat := 23
abbrev ty_sl_impl_Task : Nat := 27
abbrev ty_impl_Task : Nat := 29
abbrev ty_impl_Fraction : Nat := 44
abbrev ty_spec_l20Rd : Nat := 59
def l0_laws_FnReport : LC := .seq (.seq (.ops [⟨some 22, none, .mv (.t 6)⟩,
      ⟨some 23, none, .mv (.t 3)⟩,
      ⟨some 24, none, .len (.t 23)⟩,
      ⟨some 25, none, .bin .lss (.t 22) (.t 24)⟩])
    (.cond (.t 25) (.skip)
    (.exit 0)))
    (.seq (.block 1 (.seq (.ops [⟨some 29, none, .mv (.t 3)⟩,
      ⟨some 30, none, .mv (.t 6)⟩,
      ⟨some 31, none, .ia 1 (.t 29) (.t 30)⟩,
      ⟨some 32, none, .ld (.t 31)⟩,
      ⟨some 33, none, .call (.k (.fn n_impl_ParseTask [] [])) [.t 32]⟩,
      ⟨some 28, none, .mv (.t 33)⟩,
      ⟨some 34, none, .ext 0 (.t 28)⟩,
      ⟨some 35, none, .ext 1 (.t 28)⟩,
      ⟨some 7, none, .alloc ty_impl_Task [.i .i64 0, .i .i64 0, .i .i64 0]⟩,
      ⟨none, none, .st 3 (.t 7) (.t 34)⟩,
      ⟨some 8, none, .mv (.t 35)⟩])
    (.seq (.seq (.ops [⟨some 36, none, .mv (.t 8)⟩,
      ⟨some 37, none, .not (.t 36)⟩])
    (.cond (.t 37) (.seq (.ops [⟨some 38, none, .mv (.t 4)⟩,
      ⟨some 39, none, .len (.t 38)⟩,
      ⟨some 40, none, .bin .eql (.t 39) (.k (.i .i64 1))⟩,
      ⟨some 41, none, .mv (.t 40)⟩,
      ⟨some 42, (some (41, true)), .mv (.t 4)⟩,
      ⟨some 43, (some (41, true)), .ia 1 (.t 42) (.k (.i .i64 0))⟩,
      ⟨some 44, (some (41, true)), .ld (.t 43)⟩,
      ⟨some 45, (some (41, true)), .slen (.t 44)⟩,
      ⟨some 46, (some (41, true)), .bin .geq (.t 45) (.k (.i .i64 6))⟩,
      ⟨some 47, none, .pick (.t 41) (.t 46) (.k (.b false))⟩,
      ⟨some 48, none, .mv (.t 47)⟩,
      ⟨some 49, (some (48, true)), .mv (.t 4)⟩,
      ⟨some 50, (some (48, true)), .ia 1 (.t 49) (.k (.i .i64 0))⟩,
      ⟨some 51, (some (48, true)), .ld (.t 50)⟩,
      ⟨some 52, (some (48, true)), .sslc (.t 51) none (some (.k (.i .i64 5)))⟩,
      ⟨some 53, (some (48, true)), .scmp false (.t 52) (.k (.s (bs [108, 105, 110, 101, 32])))⟩,
      ⟨some 54, none, .pick (.t 48) (.t 53) (.k (.b false))⟩,
      ⟨some 55, none, .mv (.t 54)⟩,
      ⟨some 56, (some (55, true)), .call (.k (.fn n_laws_alive [] [])) []⟩,
      ⟨some 57, none, .pick (.t 55) (.t 56) (.k (.b false))⟩,
      ⟨some 2, none, .mv (.t 57)⟩])
    (.ret))
    (.skip)))
    (.ops [⟨some 58, none, .mv (.t 5)⟩,
      ⟨some 59, none, .ldn 3 (.t 7)⟩,
      ⟨some 60, none, .bsl ty_impl_Task [.i .i64 0, .i .i64 0, .i .i64 0] 1 [(0, 3, .t 59)]⟩,
      ⟨some 61, none, .app ty_impl_Task 3 24 (.t 58) (.t 60)⟩,
      ⟨some 5, none, .mv (.t 61)⟩]))))
    (.ops [⟨some 26, none, .mv (.t 6)⟩,
      ⟨some 27, none, .bin .add (.t 26) (.k (.i .i64 1))⟩,
      ⟨some 6, none, .mv (.t 27)⟩]))
def c_laws_FnReport : LC := .seq (.ops [⟨some 2, none, .mv (.k (.b false))⟩])
    (.seq (.seq (.ops [⟨some 9, none, .mv (.t 0)⟩,
      ⟨some 10, none, .len (.t 9)⟩,
      ⟨some 11, none, .bin .gtr (.t 10) (.k (.i .i64 1048576))⟩])
    (.cond (.t 11) (.seq (.ops [⟨some 2, none, .mv (.k (.b true))⟩])
    (.ret))
    (.skip)))
    (.seq (.ops [⟨some 12, none, .mv (.t 0)⟩,
      ⟨some 13, none, .call (.k (.fn n_spec_DrawReport [] [])) [.t 12]⟩,
      ⟨some 3, none, .mv (.t 13)⟩])
    (.seq (.ops [⟨some 14, none, .mv (.t 3)⟩,
      ⟨some 15, none, .call (.k (.fn n_impl_Report [] [])) [.t 14]⟩,
      ⟨some 4, none, .mv (.t 15)⟩])
    (.seq (.seq (.ops [⟨some 16, none, .mv (.t 4)⟩,
      ⟨some 17, none, .mv (.t 3)⟩,
      ⟨some 18, none, .call (.k (.fn n_spec_Report [] [])) [.t 17]⟩,
      ⟨some 19, none, .call (.k (.fn n_laws_sameStrings [] [])) [.t 16, .t 18]⟩,
      ⟨some 20, none, .not (.t 19)⟩])
    (.cond (.t 20) (.seq (.ops [⟨some 2, none, .mv (.k (.b false))⟩])
    (.ret))
    (.skip)))
    (.seq (.ops [⟨some 21, none, .bsl ty_impl_Task [.i .i64 0, .i .i64 0, .i .i64 0] 0 []⟩,
      ⟨some 5, none, .mv (.t 21)⟩])
    (.seq (.seq (.ops [⟨some 6, none, .mv (.k (.i .i64 0))⟩])
    (.block 0 (.loop l0_laws_FnReport)))
    (.seq (.seq (.ops [⟨some 62, none, .mv (.t 5)⟩,
      ⟨some 63, none, .len (.t 62)⟩,
      ⟨some 64, none, .bin .gtr (.t 63) (.k (.i .i64 5))⟩])
    (.cond (.t 64) (.seq (.ops [⟨some 65, none, .mv (.t 4)⟩,
      ⟨some 66, none, .bsl ty_string [.s .empty] 1 [(0, 1, .k (.s (bs [116, 111, 111, 32, 109, 97, 110, 121, 32, 116, 97, 115, 107, 115])))]⟩,
      ⟨some 67, none, .call (.k (.fn n_laws_sameStrings [] [])) [.t 65, .t 66]⟩,
      ⟨some 2, none, .mv (.t 67)⟩])
    (.ret))
    (.skip)))
    (.seq (.plan [0, 1, 2, 3, 4, 5, 8] [⟨some 68, none, .mv (.t 4)⟩,
      ⟨some 69, none, .len (.t 68)⟩,
      ⟨some 70, none, .bin .eql (.t 69) (.k (.i .i64 4))⟩,
      ⟨some 71, none, .mv (.t 70)⟩,
      ⟨some 72, (some (71, true)), .mv (.t 4)⟩,
      ⟨some 73, (some (71, true)), .ia 1 (.t 72) (.k (.i .i64 1))⟩,
      ⟨some 76, (some (71, true)), .mv (.t 5)⟩]
      (.alt (.one 6 ⟨some 74, (some (71, true)), .ld (.t 73)⟩ [] [7]
        [⟨some 75, (some (71, true)), .scmp false (.t 74) (.k (.s (bs [101, 100, 102, 32, 102, 101, 97, 115, 105, 98, 108, 101])))⟩]
      (.one 9 ⟨some 77, (some (71, true)), .call (.k (.fn n_impl_EdfFeasible [] [])) [.t 76]⟩ [] [10, 11, 12, 13, 14, 17]
        [⟨some 78, (some (71, true)), .beq false (.t 75) (.t 77)⟩,
        ⟨some 79, none, .pick (.t 71) (.t 78) (.k (.b false))⟩,
        ⟨some 80, none, .mv (.t 79)⟩,
        ⟨some 81, (some (80, true)), .mv (.t 4)⟩,
        ⟨some 82, (some (80, true)), .ia 1 (.t 81) (.k (.i .i64 3))⟩,
        ⟨some 85, (some (80, true)), .mv (.t 5)⟩]
      (.alt (.one 15 ⟨some 83, (some (80, true)), .ld (.t 82)⟩ [] []
        []
      (.alt (.one 16 ⟨some 84, (some (80, true)), .bsl ty_string [.s .empty] 6 [(0, 1, .k (.s (bs [48]))), (1, 1, .k (.s (bs [49]))), (2, 1, .k (.s (bs [50]))), (3, 1, .k (.s (bs [51]))), (4, 1, .k (.s (bs [52]))), (5, 1, .k (.s (bs [53])))]⟩ [] []
        []
      (.one 18 ⟨some 86, (some (80, true)), .call (.k (.fn n_impl_MinCores [] [])) [.t 85]⟩ [] [19]
        [⟨some 87, (some (80, true)), .ia 1 (.t 84) (.t 86)⟩]
      (.one 20 ⟨some 88, (some (80, true)), .ld (.t 87)⟩ [] [21, 22, 23, 24]
        [⟨some 89, (some (80, true)), .sadd (.k (.s (bs [99, 111, 114, 101, 115, 32]))) (.t 88)⟩,
        ⟨some 90, (some (80, true)), .scmp false (.t 83) (.t 89)⟩,
        ⟨some 91, none, .pick (.t 80) (.t 90) (.k (.b false))⟩,
        ⟨some 2, none, .mv (.t 91)⟩]
      .fin))) (.one 18 ⟨some 86, (some (80, true)), .call (.k (.fn n_impl_MinCores [] [])) [.t 85]⟩ [] []
        []
      (.one 16 ⟨some 84, (some (80, true)), .bsl ty_string [.s .empty] 6 [(0, 1, .k (.s (bs [48]))), (1, 1, .k (.s (bs [49]))), (2, 1, .k (.s (bs [50]))), (3, 1, .k (.s (bs [51]))), (4, 1, .k (.s (bs [52]))), (5, 1, .k (.s (bs [53])))]⟩ [] [19]
        [⟨some 87, (some (80, true)), .ia 1 (.t 84) (.t 86)⟩]
      (.one 20 ⟨some 88, (some (80, true)), .ld (.t 87)⟩ [] [21, 22, 23, 24]
        [⟨some 89, (some (80, true)), .sadd (.k (.s (bs [99, 111, 114, 101, 115, 32]))) (.t 88)⟩,
        ⟨some 90, (some (80, true)), .scmp false (.t 83) (.t 89)⟩,
        ⟨some 91, none, .pick (.t 80) (.t 90) (.k (.b false))⟩,
        ⟨some 2, none, .mv (.t 91)⟩]
      .fin))))) (.alt (.one 16 ⟨some 84, (some (80, true)), .bsl ty_string [.s .empty] 6 [(0, 1, .k (.s (bs [48]))), (1, 1, .k (.s (bs [49]))), (2, 1, .k (.s (bs [50]))), (3, 1, .k (.s (bs [51]))), (4, 1, .k (.s (bs [52]))), (5, 1, .k (.s (bs [53])))]⟩ [] []
        []
      (.alt (.one 15 ⟨some 83, (some (80, true)), .ld (.t 82)⟩ [] []
        []
      (.one 18 ⟨some 86, (some (80, true)), .call (.k (.fn n_impl_MinCores [] [])) [.t 85]⟩ [] [19]
        [⟨some 87, (some (80, true)), .ia 1 (.t 84) (.t 86)⟩]
      (.one 20 ⟨some 88, (some (80, true)), .ld (.t 87)⟩ [] [21, 22, 23, 24]
        [⟨some 89, (some (80, true)), .sadd (.k (.s (bs [99, 111, 114, 101, 115, 32]))) (.t 88)⟩,
        ⟨some 90, (some (80, true)), .scmp false (.t 83) (.t 89)⟩,
        ⟨some 91, none, .pick (.t 80) (.t 90) (.k (.b false))⟩,
        ⟨some 2, none, .mv (.t 91)⟩]
      .fin))) (.one 18 ⟨some 86, (some (80, true)), .call (.k (.fn n_impl_MinCores [] [])) [.t 85]⟩ [] [19]
        [⟨some 87, (some (80, true)), .ia 1 (.t 84) (.t 86)⟩]
      (.alt (.one 15 ⟨some 83, (some (80, true)), .ld (.t 82)⟩ [] []
        []
      (.one 20 ⟨some 88, (some (80, true)), .ld (.t 87)⟩ [] [21, 22, 23, 24]
        [⟨some 89, (some (80, true)), .sadd (.k (.s (bs [99, 111, 114, 101, 115, 32]))) (.t 88)⟩,
        ⟨some 90, (some (80, true)), .scmp false (.t 83) (.t 89)⟩,
        ⟨some 91, none, .pick (.t 80) (.t 90) (.k (.b false))⟩,
        ⟨some 2, none, .mv (.t 91)⟩]
      .fin)) (.one 20 ⟨some 88, (some (80, true)), .ld (.t 87)⟩ [] [21]
        [⟨some 89, (some (80, true)), .sadd (.k (.s (bs [99, 111, 114, 101, 115, 32]))) (.t 88)⟩]
      (.one 15 ⟨some 83, (some (80, true)), .ld (.t 82)⟩ [] [22, 23, 24]
        [⟨some 90, (some (80, true)), .scmp false (.t 83) (.t 89)⟩,
        ⟨some 91, none, .pick (.t 80) (.t 90) (.k (.b false))⟩,
        ⟨some 2, none, .mv (.t 91)⟩]
      .fin)))))) (.one 18 ⟨some 86, (some (80, true)), .call (.k (.fn n_impl_MinCores [] [])) [.t 85]⟩ [] []
        []
      (.alt (.one 15 ⟨some 83, (some (80, true)), .ld (.t 82)⟩ [] []
        []
      (.one 16 ⟨some 84, (some (80, true)), .bsl ty_string [.s .empty] 6 [(0, 1, .k (.s (bs [48]))), (1, 1, .k (.s (bs [49]))), (2, 1, .k (.s (bs [50]))), (3, 1, .k (.s (bs [51]))), (4, 1, .k (.s (bs [52]))), (5, 1, .k (.s (bs [53])))]⟩ [] [19]
        [⟨some 87, (some (80, true)), .ia 1 (.t 84) (.t 86)⟩]
      (.one 20 ⟨some 88, (some (80, true)), .ld (.t 87)⟩ [] [21, 22, 23, 24]
        [⟨some 89, (some (80, true)), .sadd (.k (.s (bs [99, 111, 114, 101, 115, 32]))) (.t 88)⟩,
        ⟨some 90, (some (80, true)), .scmp false (.t 83) (.t 89)⟩,
        ⟨some 91, none, .pick (.t 80) (.t 90) (.k (.b false))⟩,
        ⟨some 2, none, .mv (.t 91)⟩]
      .fin))) (.one 16 ⟨some 84, (some (80, true)), .bsl ty_string [.s .empty] 6 [(0, 1, .k (.s (bs [48]))), (1, 1, .k (.s (bs [49]))), (2, 1, .k (.s (bs [50]))), (3, 1, .k (.s (bs [51]))), (4, 1, .k (.s (bs [52]))), (5, 1, .k (.s (bs [53])))]⟩ [] [19]
        [⟨some 87, (some (80, true)), .ia 1 (.t 84) (.t 86)⟩]
      (.alt (.one 15 ⟨some 83, (some (80, true)), .ld (.t 82)⟩ [] []
        []
      (.one 20 ⟨some 88, (some (80, true)), .ld (.t 87)⟩ [] [21, 22, 23, 24]
        [⟨some 89, (some (80, true)), .sadd (.k (.s (bs [99, 111, 114, 101, 115, 32]))) (.t 88)⟩,
        ⟨some 90, (some (80, true)), .scmp false (.t 83) (.t 89)⟩,
        ⟨some 91, none, .pick (.t 80) (.t 90) (.k (.b false))⟩,
        ⟨some 2, none, .mv (.t 91)⟩]
      .fin)) (.one 20 ⟨some 88, (some (80, true)), .ld (.t 87)⟩ [] [21]
        [⟨some 89, (some (80, true)), .sadd (.k (.s (bs [99, 111, 114, 101, 115, 32]))) (.t 88)⟩]
      (.one 15 ⟨some 83, (some (80, true)), .ld (.t 82)⟩ [] [22, 23, 24]
        [⟨some 90, (some (80, true)), .scmp false (.t 83) (.t 89)⟩,
        ⟨some 91, none, .pick (.t 80) (.t 90) (.k (.b false))⟩,
        ⟨some 2, none, .mv (.t 91)⟩]
      .fin)))))))))) (.one 9 ⟨some 77, (some (71, true)), .call (.k (.fn n_impl_EdfFeasible [] [])) [.t 76]⟩ [] []
        []
      (.one 6 ⟨some 74, (some (71, true)), .ld (.t 73)⟩ [] [7, 10, 11, 12, 13, 14, 17]
        [⟨some 75, (some (71, true)), .scmp false (.t 74) (.k (.s (bs [101, 100, 102, 32, 102, 101, 97, 115, 105, 98, 108, 101])))⟩,
        ⟨some 78, (some (71, true)), .beq false (.t 75) (.t 77)⟩,
        ⟨some 79, none, .pick (.t 71) (.t 78) (.k (.b false))⟩,
        ⟨some 80, none, .mv (.t 79)⟩,
        ⟨some 81, (some (80, true)), .mv (.t 4)⟩,
        ⟨some 82, (some (80, true)), .ia 1 (.t 81) (.k (.i .i64 3))⟩,
        ⟨some 85, (some (80, true)), .mv (.t 5)⟩]
      (.alt (.one 15 ⟨some 83, (some (80, true)), .ld (.t 82)⟩ [] []
        []
      (.alt (.one 16 ⟨some 84, (some (80, true)), .bsl ty_string [.s .empty] 6 [(0, 1, .k (.s (bs [48]))), (1, 1, .k (.s (bs [49]))), (2, 1, .k (.s (bs [50]))), (3, 1, .k (.s (bs [51]))), (4, 1, .k (.s (bs [52]))), (5, 1, .k (.s (bs [53])))]⟩ [] []
        []
      (.one 18 ⟨some 86, (some (80, true)), .call (.k (.fn n_impl_MinCores [] [])) [.t 85]⟩ [] [19]
        [⟨some 87, (some (80, true)), .ia 1 (.t 84) (.t 86)⟩]
      (.one 20 ⟨some 88, (some (80, true)), .ld (.t 87)⟩ [] [21, 22, 23, 24]
        [⟨some 89, (some (80, true)), .sadd (.k (.s (bs [99, 111, 114, 101, 115, 32]))) (.t 88)⟩,
        ⟨some 90, (some (80, true)), .scmp false (.t 83) (.t 89)⟩,
        ⟨some 91, none, .pick (.t 80) (.t 90) (.k (.b false))⟩,
        ⟨some 2, none, .mv (.t 91)⟩]
      .fin))) (.one 18 ⟨some 86, (some (80, true)), .call (.k (.fn n_impl_MinCores [] [])) [.t 85]⟩ [] []
        []
      (.one 16 ⟨some 84, (some (80, true)), .bsl ty_string [.s .empty] 6 [(0, 1, .k (.s (bs [48]))), (1, 1, .k (.s (bs [49]))), (2, 1, .k (.s (bs [50]))), (3, 1, .k (.s (bs [51]))), (4, 1, .k (.s (bs [52]))), (5, 1, .k (.s (bs [53])))]⟩ [] [19]
        [⟨some 87, (some (80, true)), .ia 1 (.t 84) (.t 86)⟩]
      (.one 20 ⟨some 88, (some (80, true)), .ld (.t 87)⟩ [] [21, 22, 23, 24]
        [⟨some 89, (some (80, true)), .sadd (.k (.s (bs [99, 111, 114, 101, 115, 32]))) (.t 88)⟩,
        ⟨some 90, (some (80, true)), .scmp false (.t 83) (.t 89)⟩,
        ⟨some 91, none, .pick (.t 80) (.t 90) (.k (.b false))⟩,
        ⟨some 2, none, .mv (.t 91)⟩]
      .fin))))) (.alt (.one 16 ⟨some 84, (some (80, true)), .bsl ty_string [.s .empty] 6 [(0, 1, .k (.s (bs [48]))), (1, 1, .k (.s (bs [49]))), (2, 1, .k (.s (bs [50]))), (3, 1, .k (.s (bs [51]))), (4, 1, .k (.s (bs [52]))), (5, 1, .k (.s (bs [53])))]⟩ [] []
        []
      (.alt (.one 15 ⟨some 83, (some (80, true)), .ld (.t 82)⟩ [] []
        []
      (.one 18 ⟨some 86, (some (80, true)), .call (.k (.fn n_impl_MinCores [] [])) [.t 85]⟩ [] [19]
        [⟨some 87, (some (80, true)), .ia 1 (.t 84) (.t 86)⟩]
      (.one 20 ⟨some 88, (some (80, true)), .ld (.t 87)⟩ [] [21, 22, 23, 24]
        [⟨some 89, (some (80, true)), .sadd (.k (.s (bs [99, 111, 114, 101, 115, 32]))) (.t 88)⟩,
        ⟨some 90, (some (80, true)), .scmp false (.t 83) (.t 89)⟩,
        ⟨some 91, none, .pick (.t 80) (.t 90) (.k (.b false))⟩,
        ⟨some 2, none, .mv (.t 91)⟩]
      .fin))) (.one 18 ⟨some 86, (some (80, true)), .call (.k (.fn n_impl_MinCores [] [])) [.t 85]⟩ [] [19]
        [⟨some 87, (some (80, true)), .ia 1 (.t 84) (.t 86)⟩]
      (.alt (.one 15 ⟨some 83, (some (80, true)), .ld (.t 82)⟩ [] []
        []
      (.one 20 ⟨some 88, (some (80, true)), .ld (.t 87)⟩ [] [21, 22, 23, 24]
        [⟨some 89, (some (80, true)), .sadd (.k (.s (bs [99, 111, 114, 101, 115, 32]))) (.t 88)⟩,
        ⟨some 90, (some (80, true)), .scmp false (.t 83) (.t 89)⟩,
        ⟨some 91, none, .pick (.t 80) (.t 90) (.k (.b false))⟩,
        ⟨some 2, none, .mv (.t 91)⟩]
      .fin)) (.one 20 ⟨some 88, (some (80, true)), .ld (.t 87)⟩ [] [21]
        [⟨some 89, (some (80, true)), .sadd (.k (.s (bs [99, 111, 114, 101, 115, 32]))) (.t 88)⟩]
      (.one 15 ⟨some 83, (some (80, true)), .ld (.t 82)⟩ [] [22, 23, 24]
        [⟨some 90, (some (80, true)), .scmp false (.t 83) (.t 89)⟩,
        ⟨some 91, none, .pick (.t 80) (.t 90) (.k (.b false))⟩,
        ⟨some 2, none, .mv (.t 91)⟩]
      .fin)))))) (.one 18 ⟨some 86, (some (80, true)), .call (.k (.fn n_impl_MinCores [] [])) [.t 85]⟩ [] []
        []
      (.alt (.one 15 ⟨some 83, (some (80, true)), .ld (.t 82)⟩ [] []
        []
      (.one 16 ⟨some 84, (some (80, true)), .bsl ty_string [.s .empty] 6 [(0, 1, .k (.s (bs [48]))), (1, 1, .k (.s (bs [49]))), (2, 1, .k (.s (bs [50]))), (3, 1, .k (.s (bs [51]))), (4, 1, .k (.s (bs [52]))), (5, 1, .k (.s (bs [53])))]⟩ [] [19]
        [⟨some 87, (some (80, true)), .ia 1 (.t 84) (.t 86)⟩]
      (.one 20 ⟨some 88, (some (80, true)), .ld (.t 87)⟩ [] [21, 22, 23, 24]
        [⟨some 89, (some (80, true)), .sadd (.k (.s (bs [99, 111, 114, 101, 115, 32]))) (.t 88)⟩,
        ⟨some 90, (some (80, true)), .scmp false (.t 83) (.t 89)⟩,
        ⟨some 91, none, .pick (.t 80) (.t 90) (.k (.b false))⟩,
        ⟨some 2, none, .mv (.t 91)⟩]
      .fin))) (.one 16 ⟨some 84, (some (80, true)), .bsl ty_string [.s .empty] 6 [(0, 1, .k (.s (bs [48]))), (1, 1, .k (.s (bs [49]))), (2, 1, .k (.s (bs [50]))), (3, 1, .k (.s (bs [51]))), (4, 1, .k (.s (bs [52]))), (5, 1, .k (.s (bs [53])))]⟩ [] [19]
        [⟨some 87, (some (80, true)), .ia 1 (.t 84) (.t 86)⟩]
      (.alt (.one 15 ⟨some 83, (some (80, true)), .ld (.t 82)⟩ [] []
        []
      (.one 20 ⟨some 88, (some (80, true)), .ld (.t 87)⟩ [] [21, 22, 23, 24]
        [⟨some 89, (some (80, true)), .sadd (.k (.s (bs [99, 111, 114, 101, 115, 32]))) (.t 88)⟩,
        ⟨some 90, (some (80, true)), .scmp false (.t 83) (.t 89)⟩,
        ⟨some 91, none, .pick (.t 80) (.t 90) (.k (.b false))⟩,
        ⟨some 2, none, .mv (.t 91)⟩]
      .fin)) (.one 20 ⟨some 88, (some (80, true)), .ld (.t 87)⟩ [] [21]
        [⟨some 89, (some (80, true)), .sadd (.k (.s (bs [99, 111, 114, 101, 115, 32]))) (.t 88)⟩]
      (.one 15 ⟨some 83, (some (80, true)), .ld (.t 82)⟩ [] [22, 23, 24]
        [⟨some 90, (some (80, true)), .scmp false (.t 83) (.t 89)⟩,
        ⟨some 91, none, .pick (.t 80) (.t 90) (.k (.b false))⟩,
        ⟨some 2, none, .mv (.t 91)⟩]
      .fin))))))))))))
    (.ret)))))))))
theorem k_laws_FnReport : chkF Tryz.prog Tryz.f3 92 c_laws_FnReport [.t 2] = true := by kernel_rfl
theorem call_laws_FnReport {args : List AV} {σ : List AB} {K : AV → List AB → Prop} (hn : args.length ≤ 92) (hw : wpC Tryz.prog σ.length 92 c_laws_FnReport (retP σ.length [.t 2] K) ⟨initT 0 args, σ⟩) : CallWp Tryz.prog n_laws_FnReport args σ K := call_fn mixed Tryz.func3 k_laws_FnReport hn hw
def l0_spec_DrawReport : LC := .seq (.seq (.ops [⟨some 12, none, .mv (.t 6)⟩,
      ⟨some 13, none, .mv (.t 4)⟩,
      ⟨some 14, none, .len (.t 13)⟩,
      ⟨some 15, none, .bin .lss (.t 12) (.t 14)⟩])
    (.cond (.t 15) (.skip)
    (.exit 0)))
    (.seq (.block 1 (.ops [⟨some 18, none, .mv (.t 5)⟩,
      ⟨some 19, none, .mv (.t 4)⟩,
      ⟨some 20, none, .mv (.t 6)⟩,
      ⟨some 21, none, .ia 3 (.t 19) (.t 20)⟩,
      ⟨some 22, none, .ldn 3 (.t 21)⟩,
      ⟨some 23, none, .call (.k (.fn n_spec_FormatTask [] [])) [.t 22]⟩,
      ⟨some 24, none, .bsl ty_string [.s .empty] 1 [(0, 1, .t 23)]⟩,
      ⟨some 25, none, .app ty_string 1 16 (.t 18) (.t 24)⟩,
      ⟨some 5, none, .mv (.t 25)⟩]))
    (.ops [⟨some 16, none, .mv (.t 6)⟩,
      ⟨some 17, none, .bin .add (.t 16) (.k (.i .i64 1))⟩,
      ⟨some 6, none, .mv (.t 17)⟩]))
def c_spec_DrawReport : LC := .seq (.ops [⟨some 2, none, .mv (.k (.sn))⟩])
    (.seq (.ops [⟨some 7, none, .mv (.t 0)⟩,
      ⟨some 8, none, .call (.k (.fn n_spec_l20Open [] [])) [.t 7]⟩,
      ⟨some 3, none, .mv (.t 8)⟩])
    (.seq (.ops [⟨some 9, none, .mv (.t 3)⟩,
      ⟨some 10, none, .call (.k (.fn n_spec_l20Set [] [])) [.t 9, .k (.i .i64 0)]⟩,
      ⟨some 4, none, .mv (.t 10)⟩])
    (.seq (.ops [⟨some 11, none, .bsl ty_string [.s .empty] 0 []⟩,
      ⟨some 5, none, .mv (.t 11)⟩])
    (.seq (.seq (.ops [⟨some 6, none, .mv (.k (.i .i64 0))⟩])
    (.block 0 (.loop l0_spec_DrawReport)))
    (.join (.seq (.ops [⟨some 26, none, .mv (.t 3)⟩,
      ⟨some 27, none, .call (.k (.fn n_spec_l20Rd_odd [] [])) [.t 26, .k (.i .i64 6)]⟩])
    (.cond (.t 27) (.ops [⟨some 28, none, .mv (.t 5)⟩,
      ⟨some 29, none, .bsl ty_string [.s .empty] 3 [(0, 1, .k (.s (bs []))), (1, 1, .k (.s (bs [116, 97, 115, 107, 32, 49, 32, 49, 32, 49]))), (2, 1, .k (.s (bs [110, 111, 116, 104, 105, 110, 103])))]⟩,
      ⟨some 30, none, .mv (.t 3)⟩,
      ⟨some 31, none, .call (.k (.fn n_spec_l20Rd_pick [] [])) [.t 30, .k (.i .i64 3)]⟩,
      ⟨some 32, none, .ia 1 (.t 29) (.t 31)⟩,
      ⟨some 33, none, .ld (.t 32)⟩,
      ⟨some 34, none, .bsl ty_string [.s .empty] 1 [(0, 1, .t 33)]⟩,
      ⟨some 35, none, .app ty_string 1 16 (.t 28) (.t 34)⟩,
      ⟨some 5, none, .mv (.t 35)⟩])
    (.skip)))
    (.seq (.ops [⟨some 36, none, .mv (.t 5)⟩,
      ⟨some 2, none, .mv (.t 36)⟩])
    (.ret)))))))
theorem k_spec_DrawReport : chkF Tryz.prog Tryz.f4 37 c_spec_DrawReport [.t 2] = true := by kernel_rfl
theorem call_spec_DrawReport {args : List AV} {σ : List AB} {K : AV → List AB → Prop} (hn : args.length ≤ 37) (hw : wpC Tryz.prog σ.length 37 c_spec_DrawReport (retP σ.length [.t 2] K) ⟨initT 0 args, σ⟩) : CallWp Tryz.prog n_spec_DrawReport args σ K := call_fn mixed Tryz.func4 k_spec_DrawReport hn hw
def l0_impl_Report : LC := .seq (.ops [⟨some 58, none, .bin .lss (.t 57) (.t 56)⟩])
    (.seq (.cond (.t 58) (.skip)
    (.exit 2))
    (.seq (.block 3 (.seq (.ops [⟨some 59, none, .ia 1 (.t 55) (.t 57)⟩,
      ⟨some 60, none, .ld (.t 59)⟩,
      ⟨some 13, none, .mv (.t 60)⟩])
    (.seq (.ops [⟨some 14, none, .mv (.k (.s (bs [32, 108, 97, 116, 101])))⟩])
    (.seq (.seq (.ops [⟨some 61, none, .mv (.t 13)⟩,
      ⟨some 62, none, .bin .geq (.t 61) (.k (.i .i64 0))⟩])
    (.cond (.t 62) (.ops [⟨some 63, none, .mv (.t 13)⟩,
      ⟨some 64, none, .call (.k (.fn n_strconv_Itoa [] [])) [.t 63]⟩,
      ⟨some 65, none, .sadd (.k (.s (bs [32]))) (.t 64)⟩,
      ⟨some 14, none, .mv (.t 65)⟩])
    (.skip)))
    (.ops [⟨some 66, none, .mv (.t 11)⟩,
      ⟨some 67, none, .mv (.t 14)⟩,
      ⟨some 68, none, .sadd (.t 66) (.t 67)⟩,
      ⟨some 11, none, .mv (.t 68)⟩])))))
    (.ops [⟨some 69, none, .bin .add (.t 57) (.k (.i .i64 1))⟩,
      ⟨some 57, none, .mv (.t 69)⟩])))
def l1_impl_Report : LC := .seq (.ops [⟨some 18, none, .bin .lss (.t 17) (.t 16)⟩])
    (.seq (.cond (.t 18) (.skip)
    (.exit 0))
    (.seq (.block 1 (.seq (.ops [⟨some 19, none, .mv (.t 17)⟩,
      ⟨some 20, none, .ia 1 (.t 15) (.t 17)⟩,
      ⟨some 21, none, .ld (.t 20)⟩,
      ⟨some 4, none, .mv (.t 19)⟩,
      ⟨some 5, none, .mv (.t 21)⟩])
    (.seq (.ops [⟨some 23, none, .mv (.t 5)⟩,
      ⟨some 24, none, .call (.k (.fn n_impl_ParseTask [] [])) [.t 23]⟩,
      ⟨some 22, none, .mv (.t 24)⟩,
      ⟨some 25, none, .ext 0 (.t 22)⟩,
      ⟨some 26, none, .ext 1 (.t 22)⟩,
      ⟨some 6, none, .alloc ty_impl_Task [.i .i64 0, .i .i64 0, .i .i64 0]⟩,
      ⟨none, none, .st 3 (.t 6) (.t 25)⟩,
      ⟨some 7, none, .mv (.t 26)⟩])
    (.seq (.seq (.ops [⟨some 27, none, .mv (.t 7)⟩,
      ⟨some 28, none, .not (.t 27)⟩])
    (.cond (.t 28) (.seq (.ops [⟨some 29, none, .mv (.t 4)⟩,
      ⟨some 30, none, .bin .add (.t 29) (.k (.i .i64 1))⟩,
      ⟨some 31, none, .call (.k (.fn n_strconv_Itoa [] [])) [.t 30]⟩,
      ⟨some 32, none, .sadd (.k (.s (bs [108, 105, 110, 101, 32]))) (.t 31)⟩,
      ⟨some 33, none, .bsl ty_string [.s .empty] 1 [(0, 1, .t 32)]⟩,
      ⟨some 2, none, .mv (.t 33)⟩])
    (.ret))
    (.skip)))
    (.ops [⟨some 34, none, .mv (.t 3)⟩,
      ⟨some 35, none, .ldn 3 (.t 6)⟩,
      ⟨some 36, none, .bsl ty_impl_Task [.i .i64 0, .i .i64 0, .i .i64 0] 1 [(0, 3, .t 35)]⟩,
      ⟨some 37, none, .app ty_impl_Task 3 24 (.t 34) (.t 36)⟩,
      ⟨some 3, none, .mv (.t 37)⟩])))))
    (.ops [⟨some 38, none, .bin .add (.t 17) (.k (.i .i64 1))⟩,
      ⟨some 17, none, .mv (.t 38)⟩])))
def c_impl_Report : LC := .seq (.ops [⟨some 2, none, .mv (.k (.sn))⟩])
    (.seq (.ops [⟨some 3, none, .mv (.k (.sn))⟩])
    (.seq (.seq (.ops [⟨some 15, none, .mv (.t 0)⟩,
      ⟨some 16, none, .len (.t 15)⟩,
      ⟨some 17, none, .mv (.k (.i .i64 0))⟩])
    (.block 0 (.loop l1_impl_Report)))
    (.seq (.seq (.ops [⟨some 39, none, .mv (.t 3)⟩,
      ⟨some 40, none, .len (.t 39)⟩,
      ⟨some 41, none, .bin .gtr (.t 40) (.k (.i .i64 5))⟩])
    (.cond (.t 41) (.seq (.ops [⟨some 42, none, .bsl ty_string [.s .empty] 1 [(0, 1, .k (.s (bs [116, 111, 111, 32, 109, 97, 110, 121, 32, 116, 97, 115, 107, 115])))]⟩,
      ⟨some 2, none, .mv (.t 42)⟩])
    (.ret))
    (.skip)))
    (.seq (.ops [⟨some 43, none, .mv (.t 3)⟩,
      ⟨some 44, none, .call (.k (.fn n_impl_Utilization [] [])) [.t 43]⟩,
      ⟨some 8, none, .alloc ty_impl_Fraction [.i .i64 0, .i .i64 0]⟩,
      ⟨none, none, .st 2 (.t 8) (.t 44)⟩])
    (.seq (.ops [⟨some 9, none, .mv (.k (.s (bs [101, 100, 102, 32, 102, 101, 97, 115, 105, 98, 108, 101])))⟩])
    (.join (.seq (.ops [⟨some 45, none, .mv (.t 3)⟩,
      ⟨some 46, none, .call (.k (.fn n_impl_FirstOverload [] [])) [.t 45]⟩,
      ⟨some 10, none, .mv (.t 46)⟩])
    (.seq (.ops [⟨some 47, none, .mv (.t 10)⟩,
      ⟨some 48, none, .bin .geq (.t 47) (.k (.i .i64 0))⟩])
    (.cond (.t 48) (.ops [⟨some 49, none, .mv (.t 10)⟩,
      ⟨some 50, none, .call (.k (.fn n_strconv_Itoa [] [])) [.t 49]⟩,
      ⟨some 51, none, .sadd (.k (.s (bs [101, 100, 102, 32, 111, 118, 101, 114, 108, 111, 97, 100, 32, 97, 116, 32]))) (.t 50)⟩,
      ⟨some 9, none, .mv (.t 51)⟩])
    (.skip))))
    (.seq (.ops [⟨some 11, none, .mv (.k (.s (bs [114, 101, 115, 112, 111, 110, 115, 101])))⟩])
    (.seq (.seq (.ops [⟨some 52, none, .mv (.t 3)⟩,
      ⟨some 53, none, .mv (.t 3)⟩,
      ⟨some 54, none, .call (.k (.fn n_impl_DeadlineMonotonic [] [])) [.t 53]⟩,
      ⟨some 55, none, .call (.k (.fn n_impl_ResponseTimes [] [])) [.t 52, .t 54]⟩,
      ⟨some 56, none, .len (.t 55)⟩,
      ⟨some 57, none, .mv (.k (.i .i64 0))⟩])
    (.block 2 (.loop l0_impl_Report)))
    (.seq (.plan [0, 1, 5, 6, 9, 10, 11] [⟨some 70, none, .fa 0 (.t 8)⟩,
      ⟨some 71, none, .ld (.t 70)⟩,
      ⟨some 75, none, .fa 1 (.t 8)⟩,
      ⟨some 76, none, .ld (.t 75)⟩,
      ⟨some 79, none, .mv (.t 9)⟩,
      ⟨some 80, none, .mv (.t 11)⟩,
      ⟨some 81, none, .mv (.t 3)⟩]
      (.one 2 ⟨some 72, none, .call (.k (.fn n_strconv_Itoa [] [])) [.t 71]⟩ [(76, none, 75)] [3, 4]
        [⟨some 73, none, .sadd (.k (.s (bs [117, 116, 105, 108, 105, 122, 97, 116, 105, 111, 110, 32]))) (.t 72)⟩,
        ⟨some 74, none, .sadd (.t 73) (.k (.s (bs [47])))⟩]
      (.one 7 ⟨some 77, none, .call (.k (.fn n_strconv_Itoa [] [])) [.t 76]⟩ [(71, none, 70)] [8]
        [⟨some 78, none, .sadd (.t 74) (.t 77)⟩]
      (.one 12 ⟨some 82, none, .call (.k (.fn n_impl_MinCores [] [])) [.t 81]⟩ [(71, none, 70), (76, none, 75)] []
        []
      (.one 13 ⟨some 83, none, .call (.k (.fn n_strconv_Itoa [] [])) [.t 82]⟩ [(71, none, 70), (76, none, 75)] [14]
        [⟨some 84, none, .sadd (.k (.s (bs [99, 111, 114, 101, 115, 32]))) (.t 83)⟩]
      (.one 15 ⟨some 85, none, .bsl ty_string [.s .empty] 4 [(0, 1, .t 78), (1, 1, .t 79), (2, 1, .t 80), (3, 1, .t 84)]⟩ [(71, none, 70), (76, none, 75)] [16]
        [⟨some 2, none, .mv (.t 85)⟩]
      .fin))))))
    (.ret))))))))))
theorem k_impl_Report : chkF Tryz.prog Tryz.f5 86 c_impl_Report [.t 2] = true := by kernel_rfl
theorem call_impl_Report {args : List AV} {σ : List AB} {K : AV → List AB → Prop} (hn : args.length ≤ 86) (hw : wpC Tryz.prog σ.length 86 c_impl_Report (retP σ.length [.t 2] K) ⟨initT 0 args, σ⟩) : CallWp Tryz.prog n_impl_Report args σ K := call_fn mixed Tryz.func5 k_impl_Report hn hw
def l0_laws_sameStrings : LC := .seq (.seq (.ops [⟨some 11, none, .mv (.t 5)⟩,
      ⟨some 12, none, .mv (.t 0)⟩,
      ⟨some 13, none, .len (.t 12)⟩,
      ⟨some 14, none, .bin .lss (.t 11) (.t 13)⟩])
    (.cond (.t 14) (.skip)
    (.exit 0)))
    (.seq (.block 1 (.seq (.draw 9 [⟨some 17, none, .mv (.t 0)⟩,
      ⟨some 18, none, .mv (.t 5)⟩,
      ⟨some 19, none, .ia 1 (.t 17) (.t 18)⟩,
      ⟨some 20, none, .ld (.t 19)⟩,
      ⟨some 21, none, .mv (.t 1)⟩,
      ⟨some 22, none, .mv (.t 5)⟩,
      ⟨some 23, none, .ia 1 (.t 21) (.t 22)⟩,
      ⟨some 24, none, .ld (.t 23)⟩,
      ⟨some 25, none, .scmp true (.t 20) (.t 24)⟩])
    (.cond (.t 25) (.seq (.ops [⟨some 4, none, .mv (.k (.b false))⟩])
    (.ret))
    (.skip))))
    (.ops [⟨some 15, none, .mv (.t 5)⟩,
      ⟨some 16, none, .bin .add (.t 15) (.k (.i .i64 1))⟩,
      ⟨some 5, none, .mv (.t 16)⟩]))
def c_laws_sameStrings : LC := .seq (.ops [⟨some 4, none, .mv (.k (.b false))⟩])
    (.seq (.seq (.ops [⟨some 6, none, .mv (.t 0)⟩,
      ⟨some 7, none, .len (.t 6)⟩,
      ⟨some 8, none, .mv (.t 1)⟩,
      ⟨some 9, none, .len (.t 8)⟩,
      ⟨some 10, none, .bin .neq (.t 7) (.t 9)⟩])
    (.cond (.t 10) (.seq (.ops [⟨some 4, none, .mv (.k (.b false))⟩])
    (.ret))
    (.skip)))
    (.seq (.seq (.ops [⟨some 5, none, .mv (.k (.i .i64 0))⟩])
    (.block 0 (.loop l0_laws_sameStrings)))
    (.seq (.ops [⟨some 4, none, .mv (.k (.b true))⟩])
    (.ret))))
theorem k_laws_sameStrings : chkF Tryz.prog Tryz.f6 26 c_laws_sameStrings [.t 4] = true := by kernel_rfl
theorem call_laws_sameStrings {args : List AV} {σ : List AB} {K : AV → List AB → Prop} (hn : args.length ≤ 26) (hw : wpC Tryz.prog σ.length 26 c_laws_sameStrings (retP σ.length [.t 4] K) ⟨initT 0 args, σ⟩) : CallWp Tryz.prog n_laws_sameStrings args σ K := call_fn mixed Tryz.func6 k_laws_sameStrings hn hw
def l0_spec_Report : LC := .seq (.seq (.ops [⟨some 11, none, .mv (.t 4)⟩,
      ⟨some 12, none, .mv (.t 0)⟩,
      ⟨some 13, none, .len (.t 12)⟩,
      ⟨some 14, none, .bin .lss (.t 11) (.t 13)⟩])
    (.cond (.t 14) (.skip)
    (.exit 0)))
    (.seq (.block 1 (.seq (.ops [⟨some 18, none, .mv (.t 0)⟩,
      ⟨some 19, none, .mv (.t 4)⟩,
      ⟨some 20, none, .ia 1 (.t 18) (.t 19)⟩,
      ⟨some 21, none, .ld (.t 20)⟩,
      ⟨some 22, none, .call (.k (.fn n_spec_ParseTask [] [])) [.t 21]⟩,
      ⟨some 17, none, .mv (.t 22)⟩,
      ⟨some 23, none, .ext 0 (.t 17)⟩,
      ⟨some 24, none, .ext 1 (.t 17)⟩,
      ⟨some 5, none, .alloc ty_impl_Task [.i .i64 0, .i .i64 0, .i .i64 0]⟩,
      ⟨none, none, .st 3 (.t 5) (.t 23)⟩,
      ⟨some 6, none, .mv (.t 24)⟩])
    (.seq (.seq (.ops [⟨some 25, none, .mv (.t 6)⟩,
      ⟨some 26, none, .not (.t 25)⟩])
    (.cond (.t 26) (.seq (.ops [⟨some 27, none, .mv (.t 4)⟩,
      ⟨some 28, none, .bin .add (.t 27) (.k (.i .i64 1))⟩,
      ⟨some 29, none, .call (.k (.fn n_spec_l10Plain [] [])) [.t 28]⟩,
      ⟨some 30, none, .sadd (.k (.s (bs [108, 105, 110, 101, 32]))) (.t 29)⟩,
      ⟨some 31, none, .bsl ty_string [.s .empty] 1 [(0, 1, .t 30)]⟩,
      ⟨some 2, none, .mv (.t 31)⟩])
    (.ret))
    (.skip)))
    (.ops [⟨some 32, none, .mv (.t 3)⟩,
      ⟨some 33, none, .ldn 3 (.t 5)⟩,
      ⟨some 34, none, .bsl ty_impl_Task [.i .i64 0, .i .i64 0, .i .i64 0] 1 [(0, 3, .t 33)]⟩,
      ⟨some 35, none, .app ty_impl_Task 3 24 (.t 32) (.t 34)⟩,
      ⟨some 3, none, .mv (.t 35)⟩]))))
    (.ops [⟨some 15, none, .mv (.t 4)⟩,
      ⟨some 16, none, .bin .add (.t 15) (.k (.i .i64 1))⟩,
      ⟨some 4, none, .mv (.t 16)⟩]))
def c_spec_Report : LC := .seq (.ops [⟨some 2, none, .mv (.k (.sn))⟩])
    (.seq (.ops [⟨some 10, none, .bsl ty_impl_Task [.i .i64 0, .i .i64 0, .i .i64 0] 0 []⟩,
      ⟨some 3, none, .mv (.t 10)⟩])
    (.seq (.seq (.ops [⟨some 4, none, .mv (.k (.i .i64 0))⟩])
    (.block 0 (.loop l0_spec_Report)))
    (.seq (.seq (.ops [⟨some 36, none, .mv (.t 3)⟩,
      ⟨some 37, none, .len (.t 36)⟩,
      ⟨some 38, none, .bin .gtr (.t 37) (.k (.i .i64 5))⟩])
    (.cond (.t 38) (.seq (.ops [⟨some 39, none, .bsl ty_string [.s .empty] 1 [(0, 1, .k (.s (bs [116, 111, 111, 32, 109, 97, 110, 121, 32, 116, 97, 115, 107, 115])))]⟩,
      ⟨some 2, none, .mv (.t 39)⟩])
    (.ret))
    (.skip)))
    (.seq (.ops [⟨some 40, none, .mv (.t 3)⟩,
      ⟨some 41, none, .call (.k (.fn n_spec_Utilization [] [])) [.t 40]⟩,
      ⟨some 7, none, .alloc ty_impl_Fraction [.i .i64 0, .i .i64 0]⟩,
      ⟨none, none, .st 2 (.t 7) (.t 41)⟩])
    (.seq (.plan [0, 1, 5, 6] [⟨some 42, none, .fa 0 (.t 7)⟩,
      ⟨some 43, none, .ld (.t 42)⟩,
      ⟨some 47, none, .fa 1 (.t 7)⟩,
      ⟨some 48, none, .ld (.t 47)⟩]
      (.one 2 ⟨some 44, none, .call (.k (.fn n_spec_l10Plain [] [])) [.t 43]⟩ [(48, none, 47)] [3, 4]
        [⟨some 45, none, .sadd (.k (.s (bs [117, 116, 105, 108, 105, 122, 97, 116, 105, 111, 110, 32]))) (.t 44)⟩,
        ⟨some 46, none, .sadd (.t 45) (.k (.s (bs [47])))⟩]
      (.one 7 ⟨some 49, none, .call (.k (.fn n_spec_l10Plain [] [])) [.t 48]⟩ [(43, none, 42)] [8]
        [⟨some 50, none, .sadd (.t 46) (.t 49)⟩]
      (.one 9 ⟨some 51, none, .bsl ty_string [.s .empty] 1 [(0, 1, .t 50)]⟩ [(43, none, 42), (48, none, 47)] [10]
        [⟨some 8, none, .mv (.t 51)⟩]
      .fin))))
    (.seq (.ops [⟨some 52, none, .mv (.t 3)⟩,
      ⟨some 53, none, .call (.k (.fn n_spec_FirstOverload [] [])) [.t 52]⟩,
      ⟨some 9, none, .mv (.t 53)⟩])
    (.join (.seq (.ops [⟨some 54, none, .mv (.t 9)⟩,
      ⟨some 55, none, .bin .lss (.t 54) (.k (.i .i64 0))⟩])
    (.cond (.t 55) (.ops [⟨some 56, none, .mv (.t 8)⟩,
      ⟨some 57, none, .bsl ty_string [.s .empty] 1 [(0, 1, .k (.s (bs [101, 100, 102, 32, 102, 101, 97, 115, 105, 98, 108, 101])))]⟩,
      ⟨some 58, none, .app ty_string 1 16 (.t 56) (.t 57)⟩,
      ⟨some 8, none, .mv (.t 58)⟩])
    (.ops [⟨some 59, none, .mv (.t 8)⟩,
      ⟨some 60, none, .mv (.t 9)⟩,
      ⟨some 61, none, .call (.k (.fn n_spec_l10Plain [] [])) [.t 60]⟩,
      ⟨some 62, none, .sadd (.k (.s (bs [101, 100, 102, 32, 111, 118, 101, 114, 108, 111, 97, 100, 32, 97, 116, 32]))) (.t 61)⟩,
      ⟨some 63, none, .bsl ty_string [.s .empty] 1 [(0, 1, .t 62)]⟩,
      ⟨some 64, none, .app ty_string 1 16 (.t 59) (.t 63)⟩,
      ⟨some 8, none, .mv (.t 64)⟩])))
    (.seq (.ops [⟨some 65, none, .mv (.t 8)⟩,
      ⟨some 66, none, .mv (.t 3)⟩,
      ⟨some 67, none, .mv (.t 3)⟩,
      ⟨some 68, none, .call (.k (.fn n_spec_DeadlineMonotonic [] [])) [.t 67]⟩,
      ⟨some 69, none, .call (.k (.fn n_spec_ResponseTimes [] [])) [.t 66, .t 68]⟩,
      ⟨some 70, none, .call (.k (.fn n_spec_l10Times [] [])) [.t 69]⟩,
      ⟨some 71, none, .sadd (.k (.s (bs [114, 101, 115, 112, 111, 110, 115, 101]))) (.t 70)⟩,
      ⟨some 72, none, .bsl ty_string [.s .empty] 1 [(0, 1, .t 71)]⟩,
      ⟨some 73, none, .app ty_string 1 16 (.t 65) (.t 72)⟩,
      ⟨some 8, none, .mv (.t 73)⟩])
    (.seq (.ops [⟨some 74, none, .mv (.t 8)⟩,
      ⟨some 75, none, .mv (.t 3)⟩,
      ⟨some 76, none, .call (.k (.fn n_spec_MinCores [] [])) [.t 75]⟩,
      ⟨some 77, none, .call (.k (.fn n_spec_l10Plain [] [])) [.t 76]⟩,
      ⟨some 78, none, .sadd (.k (.s (bs [99, 111, 114, 101, 115, 32]))) (.t 77)⟩,
      ⟨some 79, none, .bsl ty_string [.s .empty] 1 [(0, 1, .t 78)]⟩,
      ⟨some 80, none, .app ty_string 1 16 (.t 74) (.t 79)⟩,
      ⟨some 2, none, .mv (.t 80)⟩])
    (.ret))))))))))
theorem k_spec_Report : chkF Tryz.prog Tryz.f7 81 c_spec_Report [.t 2] = true := by kernel_rfl
theorem call_spec_Report {args : List AV} {σ : List AB} {K : AV → List AB → Prop} (hn : args.length ≤ 81) (hw : wpC Tryz.prog σ.length 81 c_spec_Report (retP σ.length [.t 2] K) ⟨initT 0 args, σ⟩) : CallWp Tryz.prog n_spec_Report args σ K := call_fn mixed Tryz.func7 k_spec_Report hn hw
def c_impl_ParseTask : LC := .seq (.ops [⟨some 2, none, .alloc ty_impl_Task [.i .i64 0, .i .i64 0, .i .i64 0]⟩,
      ⟨some 3, none, .mv (.k (.b false))⟩])
    (.seq (.ops [⟨some 7, none, .mv (.t 0)⟩,
      ⟨some 8, none, .call (.k (.fn n_strings_Split [] [])) [.t 7, .k (.s (bs [32]))]⟩,
      ⟨some 4, none, .alloc ty_sl_string [.sn]⟩,
      ⟨none, none, .st 1 (.t 4) (.t 8)⟩])
    (.seq (.seq (.ops [⟨some 9, none, .mv (.t 0)⟩,
      ⟨some 10, none, .slen (.t 9)⟩,
      ⟨some 11, none, .bin .gtr (.t 10) (.k (.i .i64 20))⟩,
      ⟨some 12, none, .mv (.t 11)⟩,
      ⟨some 13, (some (12, false)), .ld (.t 4)⟩,
      ⟨some 14, (some (12, false)), .len (.t 13)⟩,
      ⟨some 15, (some (12, false)), .bin .neq (.t 14) (.k (.i .i64 4))⟩,
      ⟨some 16, none, .pick (.t 12) (.k (.b true)) (.t 15)⟩])
    (.cond (.t 16) (.seq (.ops [⟨some 17, none, .build [.i .i64 0, .i .i64 0, .i .i64 0] []⟩,
      ⟨none, none, .st 3 (.t 2) (.t 17)⟩,
      ⟨some 3, none, .mv (.k (.b false))⟩])
    (.ret))
    (.skip)))
    (.seq (.ops [⟨some 18, none, .mkf n_impl_ParseTask_1 [] [.t 4]⟩,
      ⟨some 5, none, .mv (.t 18)⟩])
    (.seq (.ops [⟨some 19, none, .mv (.t 5)⟩,
      ⟨some 20, none, .call (.t 19) [.k (.i .i64 1)]⟩,
      ⟨some 21, none, .mv (.t 5)⟩,
      ⟨some 22, none, .call (.t 21) [.k (.i .i64 2)]⟩,
      ⟨some 23, none, .mv (.t 5)⟩,
      ⟨some 24, none, .call (.t 23) [.k (.i .i64 3)]⟩,
      ⟨some 25, none, .build [.i .i64 0, .i .i64 0, .i .i64 0] [(0, 1, .t 20), (1, 1, .t 22), (2, 1, .t 24)]⟩,
      ⟨some 6, none, .alloc ty_impl_Task [.i .i64 0, .i .i64 0, .i .i64 0]⟩,
      ⟨none, none, .st 3 (.t 6) (.t 25)⟩])
    (.seq (.seq (.ops [⟨some 26, none, .ldn 3 (.t 6)⟩,
      ⟨some 27, none, .call (.k (.fn n_impl_FormatTask [] [])) [.t 26]⟩,
      ⟨some 28, none, .mv (.t 0)⟩,
      ⟨some 29, none, .scmp true (.t 27) (.t 28)⟩])
    (.cond (.t 29) (.seq (.ops [⟨some 30, none, .build [.i .i64 0, .i .i64 0, .i .i64 0] []⟩,
      ⟨none, none, .st 3 (.t 2) (.t 30)⟩,
      ⟨some 3, none, .mv (.k (.b false))⟩])
    (.ret))
    (.skip)))
    (.seq (.ops [⟨some 31, none, .ldn 3 (.t 6)⟩,
      ⟨none, none, .st 3 (.t 2) (.t 31)⟩,
      ⟨some 3, none, .mv (.k (.b true))⟩])
    (.ret)))))))
theorem k_impl_ParseTask : chkF Tryz.prog Tryz.f8 32 c_impl_ParseTask [.c 2 (some 3), .t 3] = true := by kernel_rfl
theorem callC_impl_ParseTask {args : List AV} {σ : List AB} {K : AV → List AB → Prop} (hn : args.length ≤ 32) (hw : Closed σ → args.all (below1 σ.length) = true → wpC Tryz.prog σ.length 32 c_impl_ParseTask (retP σ.length [.c 2 (some 3), .t 3] K) ⟨initT 0 args, σ⟩) : CallWp Tryz.prog n_impl_ParseTask args σ K := call_fnC mixed Tryz.func8 k_impl_ParseTask hn hw
def c_laws_alive : LC := .seq (.ops [⟨some 0, none, .mv (.k (.b false))⟩])
    (.seq (.ops [⟨some 1, none, .build [.i .i64 0, .i .i64 0, .i .i64 0] [(0, 1, .k (.i .i64 1)), (1, 1, .k (.i .i64 1)), (2, 1, .k (.i .i64 1))]⟩,
      ⟨some 2, none, .call (.k (.fn n_impl_TaskValid [] [])) [.t 1]⟩,
      ⟨some 0, none, .mv (.t 2)⟩])
    (.ret))
theorem k_laws_alive : chkF Tryz.prog Tryz.f9 3 c_laws_alive [.t 0] = true := by kernel_rfl
theorem call_laws_alive {args : List AV} {σ : List AB} {K : AV → List AB → Prop} (hn : args.length ≤ 3) (hw : wpC Tryz.prog σ.length 3 c_laws_alive (retP σ.length [.t 0] K) ⟨initT 0 args, σ⟩) : CallWp Tryz.prog n_laws_alive args σ K := call_fn mixed Tryz.func9 k_laws_alive hn hw
def c_impl_EdfFeasible : LC := .seq (.ops [⟨some 2, none, .mv (.k (.b false))⟩])
    (.seq (.ops [⟨some 3, none, .mv (.t 0)⟩,
      ⟨some 4, none, .call (.k (.fn n_impl_SetValid [] [])) [.t 3]⟩,
      ⟨some 5, none, .mv (.t 4)⟩,
      ⟨some 6, (some (5, true)), .mv (.t 0)⟩,
      ⟨some 7, (some (5, true)), .call (.k (.fn n_impl_feasible [] [])) [.t 6]⟩,
      ⟨some 8, none, .pick (.t 5) (.t 7) (.k (.b false))⟩,
      ⟨some 2, none, .mv (.t 8)⟩])
    (.ret))
theorem k_impl_EdfFeasible : chkF Tryz.prog Tryz.f10 9 c_impl_EdfFeasible [.t 2] = true := by kernel_rfl
theorem call_impl_EdfFeasible {args : List AV} {σ : List AB} {K : AV → List AB → Prop} (hn : args.length ≤ 9) (hw : wpC Tryz.prog σ.length 9 c_impl_EdfFeasible (retP σ.length [.t 2] K) ⟨initT 0 args, σ⟩) : CallWp Tryz.prog n_impl_EdfFeasible args σ K := call_fn mixed Tryz.func10 k_impl_EdfFeasible hn hw
def l0_impl_MinCores : LC := .seq (.seq (.ops [⟨some 9, none, .mv (.t 3)⟩,
      ⟨some 10, none, .bin .lss (.t 9) (.k (.i .i64 5))⟩])
    (.cond (.t 10) (.skip)
    (.exit 0)))
    (.seq (.block 1 (.seq (.ops [⟨some 14, none, .mv (.t 0)⟩,
      ⟨some 15, none, .mv (.t 3)⟩,
      ⟨some 16, none, .call (.k (.fn n_impl_Partition [] [])) [.t 14, .t 15]⟩,
      ⟨some 13, none, .mv (.t 16)⟩,
      ⟨some 17, none, .ext 0 (.t 13)⟩,
      ⟨some 18, none, .ext 1 (.t 13)⟩,
      ⟨some 4, none, .mv (.t 17)⟩,
      ⟨some 5, none, .mv (.t 18)⟩])
    (.seq (.ops [⟨some 19, none, .mv (.t 5)⟩])
    (.cond (.t 19) (.seq (.ops [⟨some 20, none, .mv (.t 3)⟩,
      ⟨some 2, none, .mv (.t 20)⟩])
    (.ret))
    (.skip)))))
    (.ops [⟨some 11, none, .mv (.t 3)⟩,
      ⟨some 12, none, .bin .add (.t 11) (.k (.i .i64 1))⟩,
      ⟨some 3, none, .mv (.t 12)⟩]))
def c_impl_MinCores : LC := .seq (.ops [⟨some 2, none, .mv (.k (.i .i64 0))⟩])
    (.seq (.seq (.ops [⟨some 6, none, .mv (.t 0)⟩,
      ⟨some 7, none, .call (.k (.fn n_impl_SetValid [] [])) [.t 6]⟩,
      ⟨some 8, none, .not (.t 7)⟩])
    (.cond (.t 8) (.seq (.ops [⟨some 2, none, .mv (.k (.i .i64 0))⟩])
    (.ret))
    (.skip)))
    (.seq (.seq (.ops [⟨some 3, none, .mv (.k (.i .i64 1))⟩])
    (.block 0 (.loop l0_impl_MinCores)))
    (.seq (.ops [⟨some 2, none, .mv (.k (.i .i64 5))⟩])
    (.ret))))
theorem k_impl_MinCores : chkF Tryz.prog Tryz.f11 21 c_impl_MinCores [.t 2] = true := by kernel_rfl
theorem call_impl_MinCores {args : List AV} {σ : List AB} {K : AV → List AB → Prop} (hn : args.length ≤ 21) (hw : wpC Tryz.prog σ.length 21 c_impl_MinCores (retP σ.length [.t 2] K) ⟨initT 0 args, σ⟩) : CallWp Tryz.prog n_impl_MinCores args σ K := call_fn mixed Tryz.func11 k_impl_MinCores hn hw
def c_spec_l20Open : LC := .seq (.ops [⟨some 2, none, .mv (.k (.pn))⟩])
    (.join (.seq (.ops [⟨some 3, none, .mv (.t 0)⟩,
      ⟨some 4, none, .len (.t 3)⟩,
      ⟨some 5, none, .bin .gtr (.t 4) (.k (.i .i64 2000))⟩])
    (.cond (.t 5) (.ops [⟨some 6, none, .mv (.t 0)⟩,
      ⟨some 7, none, .slc 1 (.t 6) none (some (.k (.i .i64 2000))) none⟩,
      ⟨some 0, none, .mv (.t 7)⟩])
    (.skip)))
    (.seq (.ops [⟨some 8, none, .mv (.t 0)⟩,
      ⟨some 9, none, .build [.sn, .i .i64 0] [(0, 1, .t 8)]⟩,
      ⟨some 10, none, .box ty_spec_l20Rd (.t 9)⟩,
      ⟨some 2, none, .mv (.t 10)⟩])
    (.ret)))
theorem k_spec_l20Open : chkF Tryz.prog Tryz.f12 11 c_spec_l20Open [.t 2] = true := by kernel_rfl
theorem call_spec_l20Open {args : List AV} {σ : List AB} {K : AV → List AB → Prop} (hn : args.length ≤ 11) (hw : wpC Tryz.prog σ.length 11 c_spec_l20Open (retP σ.length [.t 2] K) ⟨initT 0 args, σ⟩) : CallWp Tryz.prog n_spec_l20Open args σ K := call_fn mixed Tryz.func12 k_spec_l20Open hn hw
def l0_spec_l20Set : LC := .seq (.seq (.ops [⟨some 25, none, .mv (.t 5)⟩,
      ⟨some 26, none, .len (.t 25)⟩,
      ⟨some 27, none, .bin .leq (.t 26) (.k (.i .i64 5))⟩])
    (.cond (.t 27) (.skip)
    (.exit 2)))
    (.block 3 (.ops [⟨some 28, none, .mv (.t 5)⟩,
      ⟨some 29, none, .mv (.t 0)⟩,
      ⟨some 30, none, .call (.k (.fn n_spec_l20Task [] [])) [.t 29, .k (.i .i64 0)]⟩,
      ⟨some 31, none, .bsl ty_impl_Task [.i .i64 0, .i .i64 0, .i .i64 0] 1 [(0, 3, .t 30)]⟩,
      ⟨some 32, none, .app ty_impl_Task 3 24 (.t 28) (.t 31)⟩,
      ⟨some 5, none, .mv (.t 32)⟩]))
def l1_spec_l20Set : LC := .seq (.seq (.ops [⟨some 10, none, .mv (.t 6)⟩,
      ⟨some 11, none, .bin .gtr (.t 10) (.k (.i .i64 0))⟩])
    (.cond (.t 11) (.skip)
    (.exit 0)))
    (.seq (.block 1 (.ops [⟨some 14, none, .mv (.t 5)⟩,
      ⟨some 15, none, .mv (.t 0)⟩,
      ⟨some 16, none, .call (.k (.fn n_spec_l20Task [] [])) [.t 15, .k (.i .i64 0)]⟩,
      ⟨some 17, none, .bsl ty_impl_Task [.i .i64 0, .i .i64 0, .i .i64 0] 1 [(0, 3, .t 16)]⟩,
      ⟨some 18, none, .app ty_impl_Task 3 24 (.t 14) (.t 17)⟩,
      ⟨some 5, none, .mv (.t 18)⟩]))
    (.ops [⟨some 12, none, .mv (.t 6)⟩,
      ⟨some 13, none, .bin .sub (.t 12) (.k (.i .i64 1))⟩,
      ⟨some 6, none, .mv (.t 13)⟩]))
def c_spec_l20Set : LC := .seq (.ops [⟨some 4, none, .mv (.k (.sn))⟩])
    (.seq (.ops [⟨some 7, none, .bsl ty_impl_Task [.i .i64 0, .i .i64 0, .i .i64 0] 0 []⟩,
      ⟨some 5, none, .mv (.t 7)⟩])
    (.seq (.seq (.ops [⟨some 8, none, .mv (.t 0)⟩,
      ⟨some 9, none, .call (.k (.fn n_spec_l20Rd_pick [] [])) [.t 8, .k (.i .i64 6)]⟩,
      ⟨some 6, none, .mv (.t 9)⟩])
    (.block 0 (.loop l1_spec_l20Set)))
    (.join (.seq (.ops [⟨some 19, none, .mv (.t 0)⟩,
      ⟨some 20, none, .mv (.t 1)⟩,
      ⟨some 21, none, .call (.k (.fn n_spec_l20Rd_odd [] [])) [.t 19, .t 20]⟩])
    (.cond (.t 21) (.seq (.seq (.ops [⟨some 22, none, .mv (.t 0)⟩,
      ⟨some 23, none, .call (.k (.fn n_spec_l20Rd_pick [] [])) [.t 22, .k (.i .i64 3)]⟩,
      ⟨some 24, none, .bin .eql (.t 23) (.k (.i .i64 0))⟩])
    (.cond (.t 24) (.block 2 (.loop l0_spec_l20Set))
    (.skip)))
    (.ops [⟨some 33, none, .mv (.t 5)⟩,
      ⟨some 34, none, .mv (.t 0)⟩,
      ⟨some 35, none, .call (.k (.fn n_spec_l20Task [] [])) [.t 34, .k (.i .i64 2)]⟩,
      ⟨some 36, none, .bsl ty_impl_Task [.i .i64 0, .i .i64 0, .i .i64 0] 1 [(0, 3, .t 35)]⟩,
      ⟨some 37, none, .app ty_impl_Task 3 24 (.t 33) (.t 36)⟩,
      ⟨some 5, none, .mv (.t 37)⟩]))
    (.skip)))
    (.seq (.ops [⟨some 38, none, .mv (.t 5)⟩,
      ⟨some 4, none, .mv (.t 38)⟩])
    (.ret)))))
theorem k_spec_l20Set : chkF Tryz.prog Tryz.f13 39 c_spec_l20Set [.t 4] = true := by kernel_rfl
theorem call_spec_l20Set {args : List AV} {σ : List AB} {K : AV → List AB → Prop} (hn : args.length ≤ 39) (hw : wpC Tryz.prog σ.length 39 c_spec_l20Set (retP σ.length [.t 4] K) ⟨initT 0 args, σ⟩) : CallWp Tryz.prog n_spec_l20Set args σ K := call_fn mixed Tryz.func13 k_spec_l20Set hn hw
def c_spec_FormatTask : LC := .seq (.ops [⟨some 1, none, .box ty_impl_Task (.t 0)⟩,
      ⟨some 2, none, .mv (.k (.s (bs [])))⟩])
    (.seq (.seq (.ops [⟨some 3, none, .ldn 3 (.t 1)⟩,
      ⟨some 4, none, .call (.k (.fn n_spec_TaskValid [] [])) [.t 3]⟩,
      ⟨some 5, none, .not (.t 4)⟩])
    (.cond (.t 5) (.seq (.ops [⟨some 2, none, .mv (.k (.s (bs [])))⟩])
    (.ret))
    (.skip)))
    (.seq (.draw 14 [⟨some 6, none, .fa 0 (.t 1)⟩,
      ⟨some 7, none, .ld (.t 6)⟩,
      ⟨some 8, none, .call (.k (.fn n_spec_l10Plain [] [])) [.t 7]⟩,
      ⟨some 9, none, .sadd (.k (.s (bs [116, 97, 115, 107, 32]))) (.t 8)⟩,
      ⟨some 10, none, .sadd (.t 9) (.k (.s (bs [32])))⟩,
      ⟨some 11, none, .fa 1 (.t 1)⟩,
      ⟨some 12, none, .ld (.t 11)⟩,
      ⟨some 13, none, .call (.k (.fn n_spec_l10Plain [] [])) [.t 12]⟩,
      ⟨some 14, none, .sadd (.t 10) (.t 13)⟩,
      ⟨some 15, none, .sadd (.t 14) (.k (.s (bs [32])))⟩,
      ⟨some 16, none, .fa 2 (.t 1)⟩,
      ⟨some 17, none, .ld (.t 16)⟩,
      ⟨some 18, none, .call (.k (.fn n_spec_l10Plain [] [])) [.t 17]⟩,
      ⟨some 19, none, .sadd (.t 15) (.t 18)⟩,
      ⟨some 2, none, .mv (.t 19)⟩])
    (.ret)))
theorem k_spec_FormatTask : chkF Tryz.prog Tryz.f14 20 c_spec_FormatTask [.t 2] = true := by kernel_rfl
theorem call_spec_FormatTask {args : List AV} {σ : List AB} {K : AV → List AB → Prop} (hn : args.length ≤ 20) (hw : wpC Tryz.prog σ.length 20 c_spec_FormatTask (retP σ.length [.t 2] K) ⟨initT 0 args, σ⟩) : CallWp Tryz.prog n_spec_FormatTask args σ K := call_fn mixed Tryz.func14 k_spec_FormatTask hn hw
def c_spec_l20Rd_odd : LC := .seq (.ops [⟨some 4, none, .mv (.k (.b false))⟩])
    (.seq (.ops [⟨some 5, none, .mv (.t 1)⟩,
      ⟨some 6, none, .bin .gtr (.t 5) (.k (.i .i64 0))⟩,
      ⟨some 7, none, .mv (.t 6)⟩,
      ⟨some 8, (some (7, true)), .mv (.t 0)⟩,
      ⟨some 9, (some (7, true)), .mv (.t 1)⟩,
      ⟨some 10, (some (7, true)), .call (.k (.fn n_spec_l20Rd_pick [] [])) [.t 8, .t 9]⟩,
      ⟨some 11, (some (7, true)), .mv (.t 1)⟩,
      ⟨some 12, (some (7, true)), .bin .sub (.t 11) (.k (.i .i64 1))⟩,
      ⟨some 13, (some (7, true)), .bin .eql (.t 10) (.t 12)⟩,
      ⟨some 14, none, .pick (.t 7) (.t 13) (.k (.b false))⟩,
      ⟨some 4, none, .mv (.t 14)⟩])
    (.ret))
theorem k_spec_l20Rd_odd : chkF Tryz.prog Tryz.f15 15 c_spec_l20Rd_odd [.t 4] = true := by kernel_rfl
theorem call_spec_l20Rd_odd {args : List AV} {σ : List AB} {K : AV → List AB → Prop} (hn : args.length ≤ 15) (hw : wpC Tryz.prog σ.length 15 c_spec_l20Rd_odd (retP σ.length [.t 4] K) ⟨initT 0 args, σ⟩) : CallWp Tryz.prog n_spec_l20Rd_odd args σ K := call_fn mixed Tryz.func15 k_spec_l20Rd_odd hn hw
def c_spec_l20Rd_pick : LC := .seq (.ops [⟨some 4, none, .mv (.k (.i .i64 0))⟩])
    (.seq (.ops [⟨some 7, none, .mv (.t 0)⟩,
      ⟨some 8, none, .mv (.t 0)⟩,
      ⟨some 9, none, .nilc (.t 8)⟩,
      ⟨some 10, none, .fa 1 (.t 9)⟩,
      ⟨some 11, none, .ld (.t 10)⟩,
      ⟨some 12, none, .bin .add (.t 11) (.k (.i .i64 1))⟩,
      ⟨some 13, none, .nilc (.t 7)⟩,
      ⟨some 14, none, .fa 1 (.t 13)⟩,
      ⟨none, none, .st 1 (.t 14) (.t 12)⟩])
    (.seq (.seq (.ops [⟨some 15, none, .mv (.t 1)⟩,
      ⟨some 16, none, .bin .lss (.t 15) (.k (.i .i64 1))⟩,
      ⟨some 17, none, .mv (.t 16)⟩,
      ⟨some 18, (some (17, false)), .mv (.t 0)⟩,
      ⟨some 19, (some (17, false)), .nilc (.t 18)⟩,
      ⟨some 20, (some (17, false)), .fa 0 (.t 19)⟩,
      ⟨some 21, (some (17, false)), .ld (.t 20)⟩,
      ⟨some 22, (some (17, false)), .len (.t 21)⟩,
      ⟨some 23, (some (17, false)), .bin .eql (.t 22) (.k (.i .i64 0))⟩,
      ⟨some 24, none, .pick (.t 17) (.k (.b true)) (.t 23)⟩])
    (.cond (.t 24) (.seq (.ops [⟨some 4, none, .mv (.k (.i .i64 0))⟩])
    (.ret))
    (.skip)))
    (.seq (.ops [⟨some 25, none, .mv (.t 0)⟩,
      ⟨some 26, none, .nilc (.t 25)⟩,
      ⟨some 27, none, .fa 1 (.t 26)⟩,
      ⟨some 28, none, .ld (.t 27)⟩,
      ⟨some 29, none, .bin .sub (.t 28) (.k (.i .i64 1))⟩,
      ⟨some 5, none, .mv (.t 29)⟩])
    (.seq (.seq (.ops [⟨some 30, none, .mv (.t 5)⟩,
      ⟨some 31, none, .mv (.t 0)⟩,
      ⟨some 32, none, .nilc (.t 31)⟩,
      ⟨some 33, none, .fa 0 (.t 32)⟩,
      ⟨some 34, none, .ld (.t 33)⟩,
      ⟨some 35, none, .len (.t 34)⟩,
      ⟨some 36, none, .bin .lss (.t 30) (.t 35)⟩])
    (.cond (.t 36) (.seq (.ops [⟨some 37, none, .mv (.t 0)⟩,
      ⟨some 38, none, .nilc (.t 37)⟩,
      ⟨some 39, none, .fa 0 (.t 38)⟩,
      ⟨some 40, none, .ld (.t 39)⟩,
      ⟨some 41, none, .mv (.t 5)⟩,
      ⟨some 42, none, .ia 1 (.t 40) (.t 41)⟩,
      ⟨some 43, none, .ld (.t 42)⟩,
      ⟨some 44, none, .conv .i64 (.t 43)⟩,
      ⟨some 45, none, .mv (.t 1)⟩,
      ⟨some 46, none, .bin .rem (.t 44) (.t 45)⟩,
      ⟨some 4, none, .mv (.t 46)⟩])
    (.ret))
    (.skip)))
    (.seq (.draw 45 [⟨some 47, none, .mv (.t 0)⟩,
      ⟨some 48, none, .nilc (.t 47)⟩,
      ⟨some 49, none, .fa 0 (.t 48)⟩,
      ⟨some 50, none, .ld (.t 49)⟩,
      ⟨some 51, none, .mv (.t 5)⟩,
      ⟨some 52, none, .mv (.t 0)⟩,
      ⟨some 53, none, .nilc (.t 52)⟩,
      ⟨some 54, none, .fa 0 (.t 53)⟩,
      ⟨some 55, none, .ld (.t 54)⟩,
      ⟨some 56, none, .len (.t 55)⟩,
      ⟨some 57, none, .bin .rem (.t 51) (.t 56)⟩,
      ⟨some 58, none, .ia 1 (.t 50) (.t 57)⟩,
      ⟨some 59, none, .ld (.t 58)⟩,
      ⟨some 60, none, .conv .i64 (.t 59)⟩,
      ⟨some 61, none, .bin .mul (.t 60) (.k (.i .i64 131))⟩,
      ⟨some 62, none, .mv (.t 0)⟩,
      ⟨some 63, none, .nilc (.t 62)⟩,
      ⟨some 64, none, .fa 0 (.t 63)⟩,
      ⟨some 65, none, .ld (.t 64)⟩,
      ⟨some 66, none, .mv (.t 5)⟩,
      ⟨some 67, none, .bin .mul (.t 66) (.k (.i .i64 7))⟩,
      ⟨some 68, none, .bin .add (.t 67) (.k (.i .i64 3))⟩,
      ⟨some 69, none, .mv (.t 0)⟩,
      ⟨some 70, none, .nilc (.t 69)⟩,
      ⟨some 71, none, .fa 0 (.t 70)⟩,
      ⟨some 72, none, .ld (.t 71)⟩,
      ⟨some 73, none, .len (.t 72)⟩,
      ⟨some 74, none, .bin .rem (.t 68) (.t 73)⟩,
      ⟨some 75, none, .ia 1 (.t 65) (.t 74)⟩,
      ⟨some 76, none, .ld (.t 75)⟩,
      ⟨some 77, none, .conv .i64 (.t 76)⟩,
      ⟨some 78, none, .bin .mul (.t 77) (.k (.i .i64 1117))⟩,
      ⟨some 79, none, .bin .add (.t 61) (.t 78)⟩,
      ⟨some 80, none, .mv (.t 5)⟩,
      ⟨some 81, none, .bin .mul (.t 80) (.k (.i .i64 29))⟩,
      ⟨some 82, none, .bin .add (.t 79) (.t 81)⟩,
      ⟨some 83, none, .mv (.t 5)⟩,
      ⟨some 84, none, .mv (.t 0)⟩,
      ⟨some 85, none, .nilc (.t 84)⟩,
      ⟨some 86, none, .fa 0 (.t 85)⟩,
      ⟨some 87, none, .ld (.t 86)⟩,
      ⟨some 88, none, .len (.t 87)⟩,
      ⟨some 89, none, .bin .quo (.t 83) (.t 88)⟩,
      ⟨some 90, none, .bin .mul (.t 89) (.k (.i .i64 53))⟩,
      ⟨some 91, none, .bin .add (.t 82) (.t 90)⟩,
      ⟨some 6, none, .mv (.t 91)⟩])
    (.seq (.ops [⟨some 92, none, .mv (.t 6)⟩,
      ⟨some 93, none, .mv (.t 6)⟩,
      ⟨some 94, none, .bin .quo (.t 93) (.k (.i .i64 64))⟩,
      ⟨some 95, none, .bin .xor (.t 92) (.t 94)⟩,
      ⟨some 6, none, .mv (.t 95)⟩])
    (.seq (.ops [⟨some 96, none, .mv (.t 6)⟩,
      ⟨some 97, none, .mv (.t 1)⟩,
      ⟨some 98, none, .bin .rem (.t 96) (.t 97)⟩,
      ⟨some 4, none, .mv (.t 98)⟩])
    (.ret))))))))
theorem k_spec_l20Rd_pick : chkF Tryz.prog Tryz.f16 99 c_spec_l20Rd_pick [.t 4] = true := by kernel_rfl
theorem call_spec_l20Rd_pick {args : List AV} {σ : List AB} {K : AV → List AB → Prop} (hn : args.length ≤ 99) (hw : wpC Tryz.prog σ.length 99 c_spec_l20Rd_pick (retP σ.length [.t 4] K) ⟨initT 0 args, σ⟩) : CallWp Tryz.prog n_spec_l20Rd_pick args σ K := call_fn mixed Tryz.func16 k_spec_l20Rd_pick hn hw
def c_impl_Utilization : LC := .seq (.ops [⟨some 2, none, .alloc ty_impl_Fraction [.i .i64 0, .i .i64 0]⟩])
    (.seq (.seq (.ops [⟨some 3, none, .mv (.t 0)⟩,
      ⟨some 4, none, .call (.k (.fn n_impl_SetValid [] [])) [.t 3]⟩,
      ⟨some 5, none, .not (.t 4)⟩])
    (.cond (.t 5) (.seq (.ops [⟨some 6, none, .build [.i .i64 0, .i .i64 0] []⟩,
      ⟨none, none, .st 2 (.t 2) (.t 6)⟩])
    (.ret))
    (.skip)))
    (.seq (.ops [⟨some 7, none, .mv (.t 0)⟩,
      ⟨some 8, none, .call (.k (.fn n_impl_load [] [])) [.t 7]⟩,
      ⟨some 9, none, .mv (.t 0)⟩,
      ⟨some 10, none, .call (.k (.fn n_impl_hyper [] [])) [.t 9]⟩,
      ⟨some 11, none, .call (.k (.fn n_impl_reduced [] [])) [.t 8, .t 10]⟩,
      ⟨none, none, .st 2 (.t 2) (.t 11)⟩])
    (.ret)))
theorem k_impl_Utilization : chkF Tryz.prog Tryz.f18 12 c_impl_Utilization [.c 2 (some 2)] = true := by kernel_rfl
theorem call_impl_Utilization {args : List AV} {σ : List AB} {K : AV → List AB → Prop} (hn : args.length ≤ 12) (hw : wpC Tryz.prog σ.length 12 c_impl_Utilization (retP σ.length [.c 2 (some 2)] K) ⟨initT 0 args, σ⟩) : CallWp Tryz.prog n_impl_Utilization args σ K := call_fn mixed Tryz.func18 k_impl_Utilization hn hw
def l0_impl_FirstOverload : LC := .seq (.seq (.ops [⟨some 7, none, .mv (.t 3)⟩,
      ⟨some 8, none, .mv (.t 0)⟩,
      ⟨some 9, none, .call (.k (.fn n_impl_hyper [] [])) [.t 8]⟩,
      ⟨some 10, none, .bin .leq (.t 7) (.t 9)⟩])
    (.cond (.t 10) (.skip)
    (.exit 0)))
    (.seq (.block 1 (.seq (.ops [⟨some 13, none, .mv (.t 0)⟩,
      ⟨some 14, none, .mv (.t 3)⟩,
      ⟨some 15, none, .call (.k (.fn n_impl_demand [] [])) [.t 13, .t 14]⟩,
      ⟨some 16, none, .mv (.t 3)⟩,
      ⟨some 17, none, .bin .gtr (.t 15) (.t 16)⟩])
    (.cond (.t 17) (.seq (.ops [⟨some 18, none, .mv (.t 3)⟩,
      ⟨some 2, none, .mv (.t 18)⟩])
    (.ret))
    (.skip))))
    (.ops [⟨some 11, none, .mv (.t 3)⟩,
      ⟨some 12, none, .bin .add (.t 11) (.k (.i .i64 1))⟩,
      ⟨some 3, none, .mv (.t 12)⟩]))
def c_impl_FirstOverload : LC := .seq (.ops [⟨some 2, none, .mv (.k (.i .i64 0))⟩])
    (.seq (.seq (.ops [⟨some 4, none, .mv (.t 0)⟩,
      ⟨some 5, none, .call (.k (.fn n_impl_SetValid [] [])) [.t 4]⟩,
      ⟨some 6, none, .not (.t 5)⟩])
    (.cond (.t 6) (.seq (.ops [⟨some 2, none, .mv (.k (.i .i64 (-1)))⟩])
    (.ret))
    (.skip)))
    (.seq (.seq (.ops [⟨some 3, none, .mv (.k (.i .i64 1))⟩])
    (.block 0 (.loop l0_impl_FirstOverload)))
    (.seq (.ops [⟨some 2, none, .mv (.k (.i .i64 (-1)))⟩])
    (.ret))))
theorem k_impl_FirstOverload : chkF Tryz.prog Tryz.f19 19 c_impl_FirstOverload [.t 2] = true := by kernel_rfl
theorem call_impl_FirstOverload {args : List AV} {σ : List AB} {K : AV → List AB → Prop} (hn : args.length ≤ 19) (hw : wpC Tryz.prog σ.length 19 c_impl_FirstOverload (retP σ.length [.t 2] K) ⟨initT 0 args, σ⟩) : CallWp Tryz.prog n_impl_FirstOverload args σ K := call_fn mixed Tryz.func19 k_impl_FirstOverload hn hw
def c_impl_ResponseTimes : LC := .seq (.ops [⟨some 4, none, .mv (.k (.sn))⟩])
    (.seq (.seq (.ops [⟨some 5, none, .mv (.t 0)⟩,
      ⟨some 6, none, .mv (.t 1)⟩,
      ⟨some 7, none, .call (.k (.fn n_impl_OrderValid [] [])) [.t 5, .t 6]⟩,
      ⟨some 8, none, .not (.t 7)⟩])
    (.cond (.t 8) (.seq (.ops [⟨some 4, none, .mv (.k (.sn))⟩])
    (.ret))
    (.skip)))
    (.seq (.ops [⟨some 9, none, .mv (.t 0)⟩,
      ⟨some 10, none, .mv (.t 0)⟩,
      ⟨some 11, none, .len (.t 10)⟩,
      ⟨some 12, none, .msl ty_int 8 [.i .i64 0] (.t 11)⟩,
      ⟨some 13, none, .mv (.t 1)⟩,
      ⟨some 14, none, .call (.k (.fn n_impl_responses [] [])) [.t 9, .t 12, .t 13]⟩,
      ⟨some 4, none, .mv (.t 14)⟩])
    (.ret)))
theorem k_impl_ResponseTimes : chkF Tryz.prog Tryz.f20 15 c_impl_ResponseTimes [.t 4] = true := by kernel_rfl
theorem call_impl_ResponseTimes {args : List AV} {σ : List AB} {K : AV → List AB → Prop} (hn : args.length ≤ 15) (hw : wpC Tryz.prog σ.length 15 c_impl_ResponseTimes (retP σ.length [.t 4] K) ⟨initT 0 args, σ⟩) : CallWp Tryz.prog n_impl_ResponseTimes args σ K := call_fn mixed Tryz.func20 k_impl_ResponseTimes hn hw
def c_impl_DeadlineMonotonic : LC := .seq (.ops [⟨some 1, none, .box ty_sl_impl_Task (.t 0)⟩,
      ⟨some 2, none, .mv (.k (.sn))⟩])
    (.seq (.seq (.ops [⟨some 4, none, .ld (.t 1)⟩,
      ⟨some 5, none, .call (.k (.fn n_impl_SetValid [] [])) [.t 4]⟩,
      ⟨some 6, none, .not (.t 5)⟩])
    (.cond (.t 6) (.seq (.ops [⟨some 2, none, .mv (.k (.sn))⟩])
    (.ret))
    (.skip)))
    (.seq (.ops [⟨some 7, none, .ld (.t 1)⟩,
      ⟨some 8, none, .len (.t 7)⟩,
      ⟨some 9, none, .call (.k (.fn n_impl_indices [] [])) [.t 8]⟩,
      ⟨some 3, none, .mv (.t 9)⟩])
    (.seq (.ops [⟨some 10, none, .mv (.t 3)⟩,
      ⟨some 11, none, .mkf n_impl_DeadlineMonotonic_1 [] [.t 1]⟩,
      ⟨some 12, none, .call (.k (.fn n_slices_SortStableFunc_int [] [])) [.t 10, .t 11]⟩])
    (.seq (.ops [⟨some 13, none, .mv (.t 3)⟩,
      ⟨some 2, none, .mv (.t 13)⟩])
    (.ret)))))
theorem k_impl_DeadlineMonotonic : chkF Tryz.prog Tryz.f21 14 c_impl_DeadlineMonotonic [.t 2] = true := by kernel_rfl
theorem call_impl_DeadlineMonotonic {args : List AV} {σ : List AB} {K : AV → List AB → Prop} (hn : args.length ≤ 14) (hw : wpC Tryz.prog σ.length 14 c_impl_DeadlineMonotonic (retP σ.length [.t 2] K) ⟨initT 0 args, σ⟩) : CallWp Tryz.prog n_impl_DeadlineMonotonic args σ K := call_fn mixed Tryz.func21 k_impl_DeadlineMonotonic hn hw
def c_spec_ParseTask : LC := .seq (.ops [⟨some 2, none, .alloc ty_impl_Task [.i .i64 0, .i .i64 0, .i .i64 0]⟩,
      ⟨some 3, none, .mv (.k (.b false))⟩])
    (.seq (.ops [⟨some 6, none, .mv (.t 0)⟩,
      ⟨some 7, none, .call (.k (.fn n_spec_l10Fields [] [])) [.t 6]⟩,
      ⟨some 4, none, .mv (.t 7)⟩])
    (.seq (.seq (.ops [⟨some 8, none, .mv (.t 0)⟩,
      ⟨some 9, none, .slen (.t 8)⟩,
      ⟨some 10, none, .bin .gtr (.t 9) (.k (.i .i64 20))⟩,
      ⟨some 11, none, .mv (.t 10)⟩,
      ⟨some 12, (some (11, false)), .mv (.t 4)⟩,
      ⟨some 13, (some (11, false)), .len (.t 12)⟩,
      ⟨some 14, (some (11, false)), .bin .neq (.t 13) (.k (.i .i64 4))⟩,
      ⟨some 15, none, .pick (.t 11) (.k (.b true)) (.t 14)⟩,
      ⟨some 16, none, .mv (.t 15)⟩,
      ⟨some 17, (some (16, false)), .mv (.t 4)⟩,
      ⟨some 18, (some (16, false)), .ia 1 (.t 17) (.k (.i .i64 0))⟩,
      ⟨some 19, (some (16, false)), .ld (.t 18)⟩,
      ⟨some 20, (some (16, false)), .scmp true (.t 19) (.k (.s (bs [116, 97, 115, 107])))⟩,
      ⟨some 21, none, .pick (.t 16) (.k (.b true)) (.t 20)⟩])
    (.cond (.t 21) (.seq (.ops [⟨some 22, none, .build [.i .i64 0, .i .i64 0, .i .i64 0] []⟩,
      ⟨none, none, .st 3 (.t 2) (.t 22)⟩,
      ⟨some 3, none, .mv (.k (.b false))⟩])
    (.ret))
    (.skip)))
    (.join (.plan [0, 1, 2, 4, 5, 6, 8, 9, 10] [⟨some 23, none, .mv (.t 4)⟩,
      ⟨some 24, none, .ia 1 (.t 23) (.k (.i .i64 1))⟩,
      ⟨some 25, none, .ld (.t 24)⟩,
      ⟨some 27, none, .mv (.t 4)⟩,
      ⟨some 28, none, .ia 1 (.t 27) (.k (.i .i64 2))⟩,
      ⟨some 29, none, .ld (.t 28)⟩,
      ⟨some 31, none, .mv (.t 4)⟩,
      ⟨some 32, none, .ia 1 (.t 31) (.k (.i .i64 3))⟩,
      ⟨some 33, none, .ld (.t 32)⟩]
      (.alt (.one 3 ⟨some 26, none, .call (.k (.fn n_spec_l10Num [] [])) [.t 25]⟩ [(29, none, 28), (33, none, 32)] []
        []
      (.alt (.one 7 ⟨some 30, none, .call (.k (.fn n_spec_l10Num [] [])) [.t 29]⟩ [(25, none, 24), (33, none, 32)] []
        []
      (.alt (.one 11 ⟨some 34, none, .call (.k (.fn n_spec_l10Num [] [])) [.t 33]⟩ [(25, none, 24), (29, none, 28)] [12]
        [⟨some 35, none, .build [.i .i64 0, .i .i64 0, .i .i64 0] [(0, 1, .t 26), (1, 1, .t 30), (2, 1, .t 34)]⟩]
      (.one 13 ⟨some 5, none, .alloc ty_impl_Task [.i .i64 0, .i .i64 0, .i .i64 0]⟩ [(25, none, 24), (29, none, 28), (33, none, 32)] []
        []
      (.one 14 ⟨none, none, .st 3 (.t 5) (.t 35)⟩ [] []
        []
      .fin))) (.one 13 ⟨some 5, none, .alloc ty_impl_Task [.i .i64 0, .i .i64 0, .i .i64 0]⟩ [(25, none, 24), (29, none, 28), (33, none, 32)] []
        []
      (.one 11 ⟨some 34, none, .call (.k (.fn n_spec_l10Num [] [])) [.t 33]⟩ [(25, none, 24), (29, none, 28)] [12]
        [⟨some 35, none, .build [.i .i64 0, .i .i64 0, .i .i64 0] [(0, 1, .t 26), (1, 1, .t 30), (2, 1, .t 34)]⟩]
      (.one 14 ⟨none, none, .st 3 (.t 5) (.t 35)⟩ [] []
        []
      .fin))))) (.one 13 ⟨some 5, none, .alloc ty_impl_Task [.i .i64 0, .i .i64 0, .i .i64 0]⟩ [(25, none, 24), (29, none, 28), (33, none, 32)] []
        []
      (.one 7 ⟨some 30, none, .call (.k (.fn n_spec_l10Num [] [])) [.t 29]⟩ [(25, none, 24), (33, none, 32)] []
        []
      (.one 11 ⟨some 34, none, .call (.k (.fn n_spec_l10Num [] [])) [.t 33]⟩ [(25, none, 24), (29, none, 28)] [12]
        [⟨some 35, none, .build [.i .i64 0, .i .i64 0, .i .i64 0] [(0, 1, .t 26), (1, 1, .t 30), (2, 1, .t 34)]⟩]
      (.one 14 ⟨none, none, .st 3 (.t 5) (.t 35)⟩ [] []
        []
      .fin)))))) (.one 13 ⟨some 5, none, .alloc ty_impl_Task [.i .i64 0, .i .i64 0, .i .i64 0]⟩ [(25, none, 24), (29, none, 28), (33, none, 32)] []
        []
      (.one 3 ⟨some 26, none, .call (.k (.fn n_spec_l10Num [] [])) [.t 25]⟩ [(29, none, 28), (33, none, 32)] []
        []
      (.one 7 ⟨some 30, none, .call (.k (.fn n_spec_l10Num [] [])) [.t 29]⟩ [(25, none, 24), (33, none, 32)] []
        []
      (.one 11 ⟨some 34, none, .call (.k (.fn n_spec_l10Num [] [])) [.t 33]⟩ [(25, none, 24), (29, none, 28)] [12]
        [⟨some 35, none, .build [.i .i64 0, .i .i64 0, .i .i64 0] [(0, 1, .t 26), (1, 1, .t 30), (2, 1, .t 34)]⟩]
      (.one 14 ⟨none, none, .st 3 (.t 5) (.t 35)⟩ [] []
        []
      .fin)))))))
    (.seq (.seq (.ops [⟨some 36, none, .ldn 3 (.t 5)⟩,
      ⟨some 37, none, .call (.k (.fn n_spec_TaskValid [] [])) [.t 36]⟩,
      ⟨some 38, none, .not (.t 37)⟩])
    (.cond (.t 38) (.seq (.ops [⟨some 39, none, .build [.i .i64 0, .i .i64 0, .i .i64 0] []⟩,
      ⟨none, none, .st 3 (.t 2) (.t 39)⟩,
      ⟨some 3, none, .mv (.k (.b false))⟩])
    (.ret))
    (.skip)))
    (.seq (.ops [⟨some 40, none, .ldn 3 (.t 5)⟩,
      ⟨none, none, .st 3 (.t 2) (.t 40)⟩,
      ⟨some 3, none, .mv (.k (.b true))⟩])
    (.ret))))))
theorem k_spec_ParseTask : chkF Tryz.prog Tryz.f22 41 c_spec_ParseTask [.c 2 (some 3), .t 3] = true := by kernel_rfl
theorem call_spec_ParseTask {args : List AV} {σ : List AB} {K : AV → List AB → Prop} (hn : args.length ≤ 41) (hw : wpC Tryz.prog σ.length 41 c_spec_ParseTask (retP σ.length [.c 2 (some 3), .t 3] K) ⟨initT 0 args, σ⟩) : CallWp Tryz.prog n_spec_ParseTask args σ K := call_fn mixed Tryz.func22 k_spec_ParseTask hn hw
def l0_spec_l10Plain : LC := .seq (.seq (.ops [⟨some 4, none, .mv (.t 0)⟩,
      ⟨some 5, none, .bin .gtr (.t 4) (.k (.i .i64 9))⟩])
    (.cond (.t 5) (.skip)
    (.exit 0)))
    (.block 1 (.seq (.ops [⟨some 6, none, .mv (.t 0)⟩,
      ⟨some 7, none, .bin .rem (.t 6) (.k (.i .i64 10))⟩,
      ⟨some 8, none, .bin .add (.k (.i .i64 48)) (.t 7)⟩,
      ⟨some 9, none, .conv .u8 (.t 8)⟩,
      ⟨some 10, none, .bsl ty_uint8 [.i .u8 0] 1 [(0, 1, .t 9)]⟩,
      ⟨some 11, none, .cvb (.t 10)⟩,
      ⟨some 12, none, .mv (.t 3)⟩,
      ⟨some 13, none, .sadd (.t 11) (.t 12)⟩,
      ⟨some 3, none, .mv (.t 13)⟩])
    (.ops [⟨some 14, none, .mv (.t 0)⟩,
      ⟨some 15, none, .bin .quo (.t 14) (.k (.i .i64 10))⟩,
      ⟨some 0, none, .mv (.t 15)⟩])))
def c_spec_l10Plain : LC := .seq (.ops [⟨some 2, none, .mv (.k (.s (bs [])))⟩])
    (.seq (.ops [⟨some 3, none, .mv (.k (.s (bs [])))⟩])
    (.seq (.block 0 (.loop l0_spec_l10Plain))
    (.seq (.ops [⟨some 16, none, .mv (.t 0)⟩,
      ⟨some 17, none, .bin .add (.k (.i .i64 48)) (.t 16)⟩,
      ⟨some 18, none, .conv .u8 (.t 17)⟩,
      ⟨some 19, none, .bsl ty_uint8 [.i .u8 0] 1 [(0, 1, .t 18)]⟩,
      ⟨some 20, none, .cvb (.t 19)⟩,
      ⟨some 21, none, .mv (.t 3)⟩,
      ⟨some 22, none, .sadd (.t 20) (.t 21)⟩,
      ⟨some 2, none, .mv (.t 22)⟩])
    (.ret))))
theorem k_spec_l10Plain : chkF Tryz.prog Tryz.f23 23 c_spec_l10Plain [.t 2] = true := by kernel_rfl
theorem call_spec_l10Plain {args : List AV} {σ : List AB} {K : AV → List AB → Prop} (hn : args.length ≤ 23) (hw : wpC Tryz.prog σ.length 23 c_spec_l10Plain (retP σ.length [.t 2] K) ⟨initT 0 args, σ⟩) : CallWp Tryz.prog n_spec_l10Plain args σ K := call_fn mixed Tryz.func23 k_spec_l10Plain hn hw
def l0_spec_Utilization : LC := .seq (.seq (.ops [⟨some 13, none, .mv (.t 5)⟩,
      ⟨some 14, none, .mv (.t 0)⟩,
      ⟨some 15, none, .len (.t 14)⟩,
      ⟨some 16, none, .bin .lss (.t 13) (.t 15)⟩])
    (.cond (.t 16) (.skip)
    (.exit 0)))
    (.seq (.block 1 (.draw 15 [⟨some 19, none, .mv (.t 4)⟩,
      ⟨some 20, none, .mv (.t 0)⟩,
      ⟨some 21, none, .mv (.t 5)⟩,
      ⟨some 22, none, .ia 3 (.t 20) (.t 21)⟩,
      ⟨some 23, none, .fa 0 (.t 22)⟩,
      ⟨some 24, none, .ld (.t 23)⟩,
      ⟨some 25, none, .mv (.t 3)⟩,
      ⟨some 26, none, .mv (.t 0)⟩,
      ⟨some 27, none, .mv (.t 5)⟩,
      ⟨some 28, none, .ia 3 (.t 26) (.t 27)⟩,
      ⟨some 29, none, .fa 2 (.t 28)⟩,
      ⟨some 30, none, .ld (.t 29)⟩,
      ⟨some 31, none, .bin .quo (.t 25) (.t 30)⟩,
      ⟨some 32, none, .bin .mul (.t 24) (.t 31)⟩,
      ⟨some 33, none, .bin .add (.t 19) (.t 32)⟩,
      ⟨some 4, none, .mv (.t 33)⟩]))
    (.ops [⟨some 17, none, .mv (.t 5)⟩,
      ⟨some 18, none, .bin .add (.t 17) (.k (.i .i64 1))⟩,
      ⟨some 5, none, .mv (.t 18)⟩]))
def c_spec_Utilization : LC := .seq (.ops [⟨some 2, none, .alloc ty_impl_Fraction [.i .i64 0, .i .i64 0]⟩])
    (.seq (.seq (.ops [⟨some 7, none, .mv (.t 0)⟩,
      ⟨some 8, none, .call (.k (.fn n_spec_SetValid [] [])) [.t 7]⟩,
      ⟨some 9, none, .not (.t 8)⟩])
    (.cond (.t 9) (.seq (.ops [⟨some 10, none, .build [.i .i64 0, .i .i64 0] []⟩,
      ⟨none, none, .st 2 (.t 2) (.t 10)⟩])
    (.ret))
    (.skip)))
    (.seq (.ops [⟨some 11, none, .mv (.t 0)⟩,
      ⟨some 12, none, .call (.k (.fn n_spec_l1Hyper [] [])) [.t 11]⟩,
      ⟨some 3, none, .mv (.t 12)⟩])
    (.seq (.ops [⟨some 4, none, .mv (.k (.i .i64 0))⟩])
    (.seq (.seq (.ops [⟨some 5, none, .mv (.k (.i .i64 0))⟩])
    (.block 0 (.loop l0_spec_Utilization)))
    (.seq (.ops [⟨some 34, none, .mv (.t 3)⟩,
      ⟨some 35, none, .mv (.t 4)⟩,
      ⟨some 36, none, .call (.k (.fn n_spec_l1Gcd [] [])) [.t 34, .t 35]⟩,
      ⟨some 6, none, .mv (.t 36)⟩])
    (.seq (.draw 7 [⟨some 37, none, .mv (.t 4)⟩,
      ⟨some 38, none, .mv (.t 6)⟩,
      ⟨some 39, none, .bin .quo (.t 37) (.t 38)⟩,
      ⟨some 40, none, .mv (.t 3)⟩,
      ⟨some 41, none, .mv (.t 6)⟩,
      ⟨some 42, none, .bin .quo (.t 40) (.t 41)⟩,
      ⟨some 43, none, .build [.i .i64 0, .i .i64 0] [(0, 1, .t 39), (1, 1, .t 42)]⟩,
      ⟨none, none, .st 2 (.t 2) (.t 43)⟩])
    (.ret)))))))
theorem k_spec_Utilization : chkF Tryz.prog Tryz.f24 44 c_spec_Utilization [.c 2 (some 2)] = true := by kernel_rfl
theorem call_spec_Utilization {args : List AV} {σ : List AB} {K : AV → List AB → Prop} (hn : args.length ≤ 44) (hw : wpC Tryz.prog σ.length 44 c_spec_Utilization (retP σ.length [.c 2 (some 2)] K) ⟨initT 0 args, σ⟩) : CallWp Tryz.prog n_spec_Utilization args σ K := call_fn mixed Tryz.func24 k_spec_Utilization hn hw
def c_spec_FirstOverload : LC := .seq (.ops [⟨some 2, none, .mv (.k (.i .i64 0))⟩])
    (.seq (.seq (.ops [⟨some 3, none, .mv (.t 0)⟩,
      ⟨some 4, none, .call (.k (.fn n_spec_SetValid [] [])) [.t 3]⟩,
      ⟨some 5, none, .not (.t 4)⟩])
    (.cond (.t 5) (.seq (.ops [⟨some 2, none, .mv (.k (.i .i64 (-1)))⟩])
    (.ret))
    (.skip)))
    (.seq (.ops [⟨some 6, none, .mv (.t 0)⟩,
      ⟨some 7, none, .mv (.t 0)⟩,
      ⟨some 8, none, .call (.k (.fn n_spec_l1Hyper [] [])) [.t 7]⟩,
      ⟨some 9, none, .call (.k (.fn n_spec_l2Overload [] [])) [.t 6, .t 8]⟩,
      ⟨some 2, none, .mv (.t 9)⟩])
    (.ret)))
theorem k_spec_FirstOverload : chkF Tryz.prog Tryz.f25 10 c_spec_FirstOverload [.t 2] = true := by kernel_rfl
theorem call_spec_FirstOverload {args : List AV} {σ : List AB} {K : AV → List AB → Prop} (hn : args.length ≤ 10) (hw : wpC Tryz.prog σ.length 10 c_spec_FirstOverload (retP σ.length [.t 2] K) ⟨initT 0 args, σ⟩) : CallWp Tryz.prog n_spec_FirstOverload args σ K := call_fn mixed Tryz.func25 k_spec_FirstOverload hn hw
def l0_spec_l10Times : LC := .seq (.seq (.ops [⟨some 5, none, .mv (.t 4)⟩,
      ⟨some 6, none, .mv (.t 0)⟩,
      ⟨some 7, none, .len (.t 6)⟩,
      ⟨some 8, none, .bin .lss (.t 5) (.t 7)⟩])
    (.cond (.t 8) (.skip)
    (.exit 0)))
    (.seq (.block 1 (.seq (.ops [⟨some 11, none, .mv (.t 0)⟩,
      ⟨some 12, none, .mv (.t 4)⟩,
      ⟨some 13, none, .ia 1 (.t 11) (.t 12)⟩,
      ⟨some 14, none, .ld (.t 13)⟩,
      ⟨some 15, none, .bin .lss (.t 14) (.k (.i .i64 0))⟩])
    (.cond (.t 15) (.ops [⟨some 16, none, .mv (.t 3)⟩,
      ⟨some 17, none, .sadd (.t 16) (.k (.s (bs [32, 108, 97, 116, 101])))⟩,
      ⟨some 3, none, .mv (.t 17)⟩])
    (.ops [⟨some 18, none, .mv (.t 3)⟩,
      ⟨some 19, none, .sadd (.t 18) (.k (.s (bs [32])))⟩,
      ⟨some 20, none, .mv (.t 0)⟩,
      ⟨some 21, none, .mv (.t 4)⟩,
      ⟨some 22, none, .ia 1 (.t 20) (.t 21)⟩,
      ⟨some 23, none, .ld (.t 22)⟩,
      ⟨some 24, none, .call (.k (.fn n_spec_l10Plain [] [])) [.t 23]⟩,
      ⟨some 25, none, .sadd (.t 19) (.t 24)⟩,
      ⟨some 3, none, .mv (.t 25)⟩]))))
    (.ops [⟨some 9, none, .mv (.t 4)⟩,
      ⟨some 10, none, .bin .add (.t 9) (.k (.i .i64 1))⟩,
      ⟨some 4, none, .mv (.t 10)⟩]))
def c_spec_l10Times : LC := .seq (.ops [⟨some 2, none, .mv (.k (.s (bs [])))⟩])
    (.seq (.ops [⟨some 3, none, .mv (.k (.s (bs [])))⟩])
    (.seq (.seq (.ops [⟨some 4, none, .mv (.k (.i .i64 0))⟩])
    (.block 0 (.loop l0_spec_l10Times)))
    (.seq (.ops [⟨some 26, none, .mv (.t 3)⟩,
      ⟨some 2, none, .mv (.t 26)⟩])
    (.ret))))
theorem k_spec_l10Times : chkF Tryz.prog Tryz.f26 27 c_spec_l10Times [.t 2] = true := by kernel_rfl
theorem call_spec_l10Times {args : List AV} {σ : List AB} {K : AV → List AB → Prop} (hn : args.length ≤ 27) (hw : wpC Tryz.prog σ.length 27 c_spec_l10Times (retP σ.length [.t 2] K) ⟨initT 0 args, σ⟩) : CallWp Tryz.prog n_spec_l10Times args σ K := call_fn mixed Tryz.func26 k_spec_l10Times hn hw
def l0_spec_ResponseTimes : LC := .seq (.seq (.ops [⟨some 15, none, .mv (.t 6)⟩,
      ⟨some 16, none, .mv (.t 1)⟩,
      ⟨some 17, none, .len (.t 16)⟩,
      ⟨some 18, none, .bin .lss (.t 15) (.t 17)⟩])
    (.cond (.t 18) (.skip)
    (.exit 0)))
    (.seq (.block 1 (.plan [0, 1, 2, 3, 4, 5, 6, 7, 8, 9, 10, 11, 12] [⟨some 21, none, .mv (.t 5)⟩,
      ⟨some 22, none, .mv (.t 1)⟩,
      ⟨some 23, none, .mv (.t 6)⟩,
      ⟨some 24, none, .ia 1 (.t 22) (.t 23)⟩,
      ⟨some 25, none, .ld (.t 24)⟩,
      ⟨some 26, none, .mv (.t 0)⟩,
      ⟨some 27, none, .mv (.t 1)⟩,
      ⟨some 28, none, .mv (.t 6)⟩,
      ⟨some 29, none, .slc 1 (.t 27) none (some (.t 28)) none⟩,
      ⟨some 30, none, .mv (.t 1)⟩,
      ⟨some 31, none, .mv (.t 6)⟩,
      ⟨some 32, none, .ia 1 (.t 30) (.t 31)⟩,
      ⟨some 33, none, .ld (.t 32)⟩]
      (.one 13 ⟨some 34, none, .call (.k (.fn n_spec_l4Response [] [])) [.t 26, .t 29, .t 33]⟩ [(25, none, 24)] [14]
        [⟨some 35, none, .ia 1 (.t 21) (.t 25)⟩]
      (.one 15 ⟨none, none, .st 1 (.t 35) (.t 34)⟩ [] []
        []
      .fin))))
    (.ops [⟨some 19, none, .mv (.t 6)⟩,
      ⟨some 20, none, .bin .add (.t 19) (.k (.i .i64 1))⟩,
      ⟨some 6, none, .mv (.t 20)⟩]))
def c_spec_ResponseTimes : LC := .seq (.ops [⟨some 4, none, .mv (.k (.sn))⟩])
    (.seq (.seq (.ops [⟨some 7, none, .mv (.t 0)⟩,
      ⟨some 8, none, .mv (.t 1)⟩,
      ⟨some 9, none, .call (.k (.fn n_spec_OrderValid [] [])) [.t 7, .t 8]⟩,
      ⟨some 10, none, .not (.t 9)⟩])
    (.cond (.t 10) (.seq (.ops [⟨some 11, none, .bsl ty_int [.i .i64 0] 0 []⟩,
      ⟨some 4, none, .mv (.t 11)⟩])
    (.ret))
    (.skip)))
    (.seq (.ops [⟨some 12, none, .mv (.t 0)⟩,
      ⟨some 13, none, .len (.t 12)⟩,
      ⟨some 14, none, .msl ty_int 8 [.i .i64 0] (.t 13)⟩,
      ⟨some 5, none, .mv (.t 14)⟩])
    (.seq (.seq (.ops [⟨some 6, none, .mv (.k (.i .i64 0))⟩])
    (.block 0 (.loop l0_spec_ResponseTimes)))
    (.seq (.ops [⟨some 36, none, .mv (.t 5)⟩,
      ⟨some 4, none, .mv (.t 36)⟩])
    (.ret)))))
theorem k_spec_ResponseTimes : chkF Tryz.prog Tryz.f27 37 c_spec_ResponseTimes [.t 4] = true := by kernel_rfl
theorem call_spec_ResponseTimes {args : List AV} {σ : List AB} {K : AV → List AB → Prop} (hn : args.length ≤ 37) (hw : wpC Tryz.prog σ.length 37 c_spec_ResponseTimes (retP σ.length [.t 4] K) ⟨initT 0 args, σ⟩) : CallWp Tryz.prog n_spec_ResponseTimes args σ K := call_fn mixed Tryz.func27 k_spec_ResponseTimes hn hw
def l0_spec_DeadlineMonotonic : LC := .seq (.seq (.ops [⟨some 15, none, .mv (.t 5)⟩,
      ⟨some 16, none, .mv (.t 0)⟩,
      ⟨some 17, none, .len (.t 16)⟩,
      ⟨some 18, none, .bin .lss (.t 15) (.t 17)⟩])
    (.cond (.t 18) (.skip)
    (.exit 2)))
    (.seq (.block 3 (.seq (.ops [⟨some 21, none, .mv (.t 0)⟩,
      ⟨some 22, none, .mv (.t 5)⟩,
      ⟨some 23, none, .ia 3 (.t 21) (.t 22)⟩,
      ⟨some 24, none, .fa 1 (.t 23)⟩,
      ⟨some 25, none, .ld (.t 24)⟩,
      ⟨some 26, none, .mv (.t 4)⟩,
      ⟨some 27, none, .bin .eql (.t 25) (.t 26)⟩])
    (.cond (.t 27) (.ops [⟨some 28, none, .mv (.t 3)⟩,
      ⟨some 29, none, .mv (.t 5)⟩,
      ⟨some 30, none, .bsl ty_int [.i .i64 0] 1 [(0, 1, .t 29)]⟩,
      ⟨some 31, none, .app ty_int 1 8 (.t 28) (.t 30)⟩,
      ⟨some 3, none, .mv (.t 31)⟩])
    (.skip))))
    (.ops [⟨some 19, none, .mv (.t 5)⟩,
      ⟨some 20, none, .bin .add (.t 19) (.k (.i .i64 1))⟩,
      ⟨some 5, none, .mv (.t 20)⟩]))
def l1_spec_DeadlineMonotonic : LC := .seq (.seq (.ops [⟨some 11, none, .mv (.t 4)⟩,
      ⟨some 12, none, .bin .leq (.t 11) (.k (.i .i64 12))⟩])
    (.cond (.t 12) (.skip)
    (.exit 0)))
    (.seq (.block 1 (.seq (.ops [⟨some 5, none, .mv (.k (.i .i64 0))⟩])
    (.block 2 (.loop l0_spec_DeadlineMonotonic))))
    (.ops [⟨some 13, none, .mv (.t 4)⟩,
      ⟨some 14, none, .bin .add (.t 13) (.k (.i .i64 1))⟩,
      ⟨some 4, none, .mv (.t 14)⟩]))
def c_spec_DeadlineMonotonic : LC := .seq (.ops [⟨some 2, none, .mv (.k (.sn))⟩])
    (.seq (.ops [⟨some 6, none, .bsl ty_int [.i .i64 0] 0 []⟩,
      ⟨some 3, none, .mv (.t 6)⟩])
    (.seq (.seq (.ops [⟨some 7, none, .mv (.t 0)⟩,
      ⟨some 8, none, .call (.k (.fn n_spec_SetValid [] [])) [.t 7]⟩,
      ⟨some 9, none, .not (.t 8)⟩])
    (.cond (.t 9) (.seq (.ops [⟨some 10, none, .mv (.t 3)⟩,
      ⟨some 2, none, .mv (.t 10)⟩])
    (.ret))
    (.skip)))
    (.seq (.seq (.ops [⟨some 4, none, .mv (.k (.i .i64 1))⟩])
    (.block 0 (.loop l1_spec_DeadlineMonotonic)))
    (.seq (.ops [⟨some 32, none, .mv (.t 3)⟩,
      ⟨some 2, none, .mv (.t 32)⟩])
    (.ret)))))
theorem k_spec_DeadlineMonotonic : chkF Tryz.prog Tryz.f28 33 c_spec_DeadlineMonotonic [.t 2] = true := by kernel_rfl
theorem call_spec_DeadlineMonotonic {args : List AV} {σ : List AB} {K : AV → List AB → Prop} (hn : args.length ≤ 33) (hw : wpC Tryz.prog σ.length 33 c_spec_DeadlineMonotonic (retP σ.length [.t 2] K) ⟨initT 0 args, σ⟩) : CallWp Tryz.prog n_spec_DeadlineMonotonic args σ K := call_fn mixed Tryz.func28 k_spec_DeadlineMonotonic hn hw
def l0_spec_MinCores : LC := .seq (.seq (.ops [⟨some 9, none, .mv (.t 3)⟩,
      ⟨some 10, none, .bin .lss (.t 9) (.k (.i .i64 5))⟩])
    (.cond (.t 10) (.skip)
    (.exit 0)))
    (.seq (.block 1 (.seq (.ops [⟨some 14, none, .mv (.t 0)⟩,
      ⟨some 15, none, .mv (.t 3)⟩,
      ⟨some 16, none, .bsl ty_int [.i .i64 0] 0 []⟩,
      ⟨some 17, none, .call (.k (.fn n_spec_l7Search [] [])) [.t 14, .t 15, .t 16]⟩,
      ⟨some 13, none, .mv (.t 17)⟩,
      ⟨some 18, none, .ext 0 (.t 13)⟩,
      ⟨some 19, none, .ext 1 (.t 13)⟩,
      ⟨some 4, none, .mv (.t 18)⟩,
      ⟨some 5, none, .mv (.t 19)⟩])
    (.seq (.ops [⟨some 20, none, .mv (.t 5)⟩])
    (.cond (.t 20) (.seq (.ops [⟨some 21, none, .mv (.t 3)⟩,
      ⟨some 2, none, .mv (.t 21)⟩])
    (.ret))
    (.skip)))))
    (.ops [⟨some 11, none, .mv (.t 3)⟩,
      ⟨some 12, none, .bin .add (.t 11) (.k (.i .i64 1))⟩,
      ⟨some 3, none, .mv (.t 12)⟩]))
def c_spec_MinCores : LC := .seq (.ops [⟨some 2, none, .mv (.k (.i .i64 0))⟩])
    (.seq (.seq (.ops [⟨some 6, none, .mv (.t 0)⟩,
      ⟨some 7, none, .call (.k (.fn n_spec_SetValid [] [])) [.t 6]⟩,
      ⟨some 8, none, .not (.t 7)⟩])
    (.cond (.t 8) (.seq (.ops [⟨some 2, none, .mv (.k (.i .i64 0))⟩])
    (.ret))
    (.skip)))
    (.seq (.seq (.ops [⟨some 3, none, .mv (.k (.i .i64 1))⟩])
    (.block 0 (.loop l0_spec_MinCores)))
    (.seq (.ops [⟨some 2, none, .mv (.k (.i .i64 5))⟩])
    (.ret))))
theorem k_spec_MinCores : chkF Tryz.prog Tryz.f29 22 c_spec_MinCores [.t 2] = true := by kernel_rfl
theorem call_spec_MinCores {args : List AV} {σ : List AB} {K : AV → List AB → Prop} (hn : args.length ≤ 22) (hw : wpC Tryz.prog σ.length 22 c_spec_MinCores (retP σ.length [.t 2] K) ⟨initT 0 args, σ⟩) : CallWp Tryz.prog n_spec_MinCores args σ K := call_fn mixed Tryz.func29 k_spec_MinCores hn hw
def c_impl_ParseTask_1 : LC := .seq (.ops [⟨some 3, none, .mv (.k (.i .i64 0))⟩])
    (.seq (.ops [⟨some 7, none, .ld (.t 1)⟩,
      ⟨some 8, none, .mv (.t 0)⟩,
      ⟨some 9, none, .ia 1 (.t 7) (.t 8)⟩,
      ⟨some 10, none, .ld (.t 9)⟩,
      ⟨some 11, none, .call (.k (.fn n_strconv_Atoi [] [])) [.t 10]⟩,
      ⟨some 6, none, .mv (.t 11)⟩,
      ⟨some 12, none, .ext 0 (.t 6)⟩,
      ⟨some 13, none, .ext 1 (.t 6)⟩,
      ⟨some 4, none, .mv (.t 12)⟩,
      ⟨some 5, none, .mv (.t 13)⟩])
    (.seq (.seq (.ops [⟨some 14, none, .mv (.t 5)⟩,
      ⟨some 15, none, .inil true (.t 14)⟩])
    (.cond (.t 15) (.seq (.ops [⟨some 3, none, .mv (.k (.i .i64 0))⟩])
    (.ret))
    (.skip)))
    (.seq (.ops [⟨some 16, none, .mv (.t 4)⟩,
      ⟨some 3, none, .mv (.t 16)⟩])
    (.ret))))
theorem k_impl_ParseTask_1 : chkF Tryz.prog Tryz.f31 17 c_impl_ParseTask_1 [.t 3] = true := by kernel_rfl
theorem call_impl_ParseTask_1 {args : List AV} {σ : List AB} {K : AV → List AB → Prop} (hn : args.length ≤ 17) (hw : wpC Tryz.prog σ.length 17 c_impl_ParseTask_1 (retP σ.length [.t 3] K) ⟨initT 0 args, σ⟩) : CallWp Tryz.prog n_impl_ParseTask_1 args σ K := call_fn mixed Tryz.func31 k_impl_ParseTask_1 hn hw
def c_impl_FormatTask : LC := .seq (.ops [⟨some 1, none, .box ty_impl_Task (.t 0)⟩,
      ⟨some 2, none, .mv (.k (.s (bs [])))⟩])
    (.seq (.seq (.ops [⟨some 3, none, .ldn 3 (.t 1)⟩,
      ⟨some 4, none, .call (.k (.fn n_impl_TaskValid [] [])) [.t 3]⟩,
      ⟨some 5, none, .not (.t 4)⟩])
    (.cond (.t 5) (.seq (.ops [⟨some 2, none, .mv (.k (.s (bs [])))⟩])
    (.ret))
    (.skip)))
    (.seq (.draw 14 [⟨some 6, none, .fa 0 (.t 1)⟩,
      ⟨some 7, none, .ld (.t 6)⟩,
      ⟨some 8, none, .call (.k (.fn n_strconv_Itoa [] [])) [.t 7]⟩,
      ⟨some 9, none, .sadd (.k (.s (bs [116, 97, 115, 107, 32]))) (.t 8)⟩,
      ⟨some 10, none, .sadd (.t 9) (.k (.s (bs [32])))⟩,
      ⟨some 11, none, .fa 1 (.t 1)⟩,
      ⟨some 12, none, .ld (.t 11)⟩,
      ⟨some 13, none, .call (.k (.fn n_strconv_Itoa [] [])) [.t 12]⟩,
      ⟨some 14, none, .sadd (.t 10) (.t 13)⟩,
      ⟨some 15, none, .sadd (.t 14) (.k (.s (bs [32])))⟩,
      ⟨some 16, none, .fa 2 (.t 1)⟩,
      ⟨some 17, none, .ld (.t 16)⟩,
      ⟨some 18, none, .call (.k (.fn n_strconv_Itoa [] [])) [.t 17]⟩,
      ⟨some 19, none, .sadd (.t 15) (.t 18)⟩,
      ⟨some 2, none, .mv (.t 19)⟩])
    (.ret)))
theorem k_impl_FormatTask : chkF Tryz.prog Tryz.f33 20 c_impl_FormatTask [.t 2] = true := by kernel_rfl
theorem call_impl_FormatTask {args : List AV} {σ : List AB} {K : AV → List AB → Prop} (hn : args.length ≤ 20) (hw : wpC Tryz.prog σ.length 20 c_impl_FormatTask (retP σ.length [.t 2] K) ⟨initT 0 args, σ⟩) : CallWp Tryz.prog n_impl_FormatTask args σ K := call_fn mixed Tryz.func33 k_impl_FormatTask hn hw
def c_impl_TaskValid : LC := .seq (.ops [⟨some 1, none, .box ty_impl_Task (.t 0)⟩,
      ⟨some 2, none, .mv (.k (.b false))⟩])
    (.seq (.ops [⟨some 3, none, .fa 0 (.t 1)⟩,
      ⟨some 4, none, .ld (.t 3)⟩,
      ⟨some 5, none, .call (.k (.fn n_impl_in [] [])) [.t 4, .k (.i .i64 1), .k (.i .i64 8)]⟩,
      ⟨some 6, none, .mv (.t 5)⟩,
      ⟨some 7, (some (6, true)), .fa 1 (.t 1)⟩,
      ⟨some 8, (some (6, true)), .ld (.t 7)⟩,
      ⟨some 9, (some (6, true)), .fa 0 (.t 1)⟩,
      ⟨some 10, (some (6, true)), .ld (.t 9)⟩,
      ⟨some 11, (some (6, true)), .fa 2 (.t 1)⟩,
      ⟨some 12, (some (6, true)), .ld (.t 11)⟩,
      ⟨some 13, (some (6, true)), .call (.k (.fn n_impl_in [] [])) [.t 8, .t 10, .t 12]⟩,
      ⟨some 14, none, .pick (.t 6) (.t 13) (.k (.b false))⟩,
      ⟨some 15, none, .mv (.t 14)⟩,
      ⟨some 16, (some (15, true)), .fa 2 (.t 1)⟩,
      ⟨some 17, (some (15, true)), .ld (.t 16)⟩,
      ⟨some 18, (some (15, true)), .bin .leq (.t 17) (.k (.i .i64 12))⟩,
      ⟨some 19, none, .pick (.t 15) (.t 18) (.k (.b false))⟩,
      ⟨some 2, none, .mv (.t 19)⟩])
    (.ret))
theorem k_impl_TaskValid : chkF Tryz.prog Tryz.f34 20 c_impl_TaskValid [.t 2] = true := by kernel_rfl
theorem call_impl_TaskValid {args : List AV} {σ : List AB} {K : AV → List AB → Prop} (hn : args.length ≤ 20) (hw : wpC Tryz.prog σ.length 20 c_impl_TaskValid (retP σ.length [.t 2] K) ⟨initT 0 args, σ⟩) : CallWp Tryz.prog n_impl_TaskValid args σ K := call_fn mixed Tryz.func34 k_impl_TaskValid hn hw
def c_impl_SetValid : LC := .seq (.ops [⟨some 2, none, .mv (.k (.b false))⟩])
    (.seq (.ops [⟨some 3, none, .mv (.t 0)⟩,
      ⟨some 4, none, .len (.t 3)⟩,
      ⟨some 5, none, .bin .leq (.t 4) (.k (.i .i64 5))⟩,
      ⟨some 6, none, .mv (.t 5)⟩,
      ⟨some 7, (some (6, true)), .mv (.t 0)⟩,
      ⟨some 8, (some (6, true)), .call (.k (.fn n_slices_ContainsFunc_impl_Task [] [])) [.t 7, .k (.fn n_impl_SetValid_1 [] [])]⟩,
      ⟨some 9, (some (6, true)), .not (.t 8)⟩,
      ⟨some 10, none, .pick (.t 6) (.t 9) (.k (.b false))⟩,
      ⟨some 2, none, .mv (.t 10)⟩])
    (.ret))
theorem k_impl_SetValid : chkF Tryz.prog Tryz.f35 11 c_impl_SetValid [.t 2] = true := by kernel_rfl
theorem call_impl_SetValid {args : List AV} {σ : List AB} {K : AV → List AB → Prop} (hn : args.length ≤ 11) (hw : wpC Tryz.prog σ.length 11 c_impl_SetValid (retP σ.length [.t 2] K) ⟨initT 0 args, σ⟩) : CallWp Tryz.prog n_impl_SetValid args σ K := call_fn mixed Tryz.func35 k_impl_SetValid hn hw
def c_impl_feasible : LC := .seq (.ops [⟨some 2, none, .mv (.k (.b false))⟩])
    (.seq (.ops [⟨some 3, none, .mv (.t 0)⟩,
      ⟨some 4, none, .call (.k (.fn n_impl_FirstOverload [] [])) [.t 3]⟩,
      ⟨some 5, none, .bin .lss (.t 4) (.k (.i .i64 0))⟩,
      ⟨some 2, none, .mv (.t 5)⟩])
    (.ret))
theorem k_impl_feasible : chkF Tryz.prog Tryz.f36 6 c_impl_feasible [.t 2] = true := by kernel_rfl
theorem call_impl_feasible {args : List AV} {σ : List AB} {K : AV → List AB → Prop} (hn : args.length ≤ 6) (hw : wpC Tryz.prog σ.length 6 c_impl_feasible (retP σ.length [.t 2] K) ⟨initT 0 args, σ⟩) : CallWp Tryz.prog n_impl_feasible args σ K := call_fn mixed Tryz.func36 k_impl_feasible hn hw
def c_impl_Partition : LC := .seq (.ops [⟨some 4, none, .mv (.k (.sn))⟩,
      ⟨some 5, none, .mv (.k (.b false))⟩])
    (.seq (.seq (.ops [⟨some 7, none, .mv (.t 0)⟩,
      ⟨some 8, none, .call (.k (.fn n_impl_SetValid [] [])) [.t 7]⟩,
      ⟨some 9, none, .not (.t 8)⟩,
      ⟨some 10, none, .mv (.t 9)⟩,
      ⟨some 11, (some (10, false)), .mv (.t 1)⟩,
      ⟨some 12, (some (10, false)), .call (.k (.fn n_impl_isCores [] [])) [.t 11]⟩,
      ⟨some 13, (some (10, false)), .not (.t 12)⟩,
      ⟨some 14, none, .pick (.t 10) (.k (.b true)) (.t 13)⟩])
    (.cond (.t 14) (.seq (.ops [⟨some 4, none, .mv (.k (.sn))⟩,
      ⟨some 5, none, .mv (.k (.b false))⟩])
    (.ret))
    (.skip)))
    (.seq (.ops [⟨some 15, none, .mv (.t 0)⟩,
      ⟨some 16, none, .len (.t 15)⟩,
      ⟨some 17, none, .call (.k (.fn n_impl_none [] [])) [.t 16]⟩,
      ⟨some 6, none, .mv (.t 17)⟩])
    (.seq (.seq (.ops [⟨some 18, none, .mv (.t 0)⟩,
      ⟨some 19, none, .mv (.t 1)⟩,
      ⟨some 20, none, .mv (.t 6)⟩,
      ⟨some 21, none, .call (.k (.fn n_impl_search [] [])) [.t 18, .t 19, .t 20, .k (.i .i64 0), .k (.i .i64 0)]⟩,
      ⟨some 22, none, .not (.t 21)⟩])
    (.cond (.t 22) (.seq (.ops [⟨some 4, none, .mv (.k (.sn))⟩,
      ⟨some 5, none, .mv (.k (.b false))⟩])
    (.ret))
    (.skip)))
    (.seq (.ops [⟨some 23, none, .mv (.t 6)⟩,
      ⟨some 4, none, .mv (.t 23)⟩,
      ⟨some 5, none, .mv (.k (.b true))⟩])
    (.ret)))))
theorem k_impl_Partition : chkF Tryz.prog Tryz.f37 24 c_impl_Partition [.t 4, .t 5] = true := by kernel_rfl
theorem call_impl_Partition {args : List AV} {σ : List AB} {K : AV → List AB → Prop} (hn : args.length ≤ 24) (hw : wpC Tryz.prog σ.length 24 c_impl_Partition (retP σ.length [.t 4, .t 5] K) ⟨initT 0 args, σ⟩) : CallWp Tryz.prog n_impl_Partition args σ K := call_fn mixed Tryz.func37 k_impl_Partition hn hw
def c_spec_l20Task : LC := .seq (.ops [⟨some 4, none, .alloc ty_impl_Task [.i .i64 0, .i .i64 0, .i .i64 0]⟩])
    (.seq (.ops [⟨some 6, none, .mv (.t 0)⟩,
      ⟨some 7, none, .call (.k (.fn n_spec_l20Rd_pick [] [])) [.t 6, .k (.i .i64 12)]⟩,
      ⟨some 8, none, .bin .add (.k (.i .i64 1)) (.t 7)⟩,
      ⟨some 9, none, .bsl ty_int [.i .i64 0] 8 [(0, 1, .k (.i .i64 2)), (1, 1, .k (.i .i64 3)), (2, 1, .k (.i .i64 4)), (3, 1, .k (.i .i64 6)), (4, 1, .k (.i .i64 8)), (5, 1, .k (.i .i64 12)), (6, 1, .t 8), (7, 1, .k (.i .i64 5))]⟩,
      ⟨some 10, none, .mv (.t 0)⟩,
      ⟨some 11, none, .call (.k (.fn n_spec_l20Rd_pick [] [])) [.t 10, .k (.i .i64 8)]⟩,
      ⟨some 12, none, .ia 1 (.t 9) (.t 11)⟩,
      ⟨some 13, none, .ld (.t 12)⟩,
      ⟨some 14, none, .build [.i .i64 0, .i .i64 0, .i .i64 0] [(2, 1, .t 13)]⟩,
      ⟨some 5, none, .alloc ty_impl_Task [.i .i64 0, .i .i64 0, .i .i64 0]⟩,
      ⟨none, none, .st 3 (.t 5) (.t 14)⟩])
    (.join (.plan [0, 1, 2, 3, 4, 7, 8, 9, 10, 12] [⟨some 15, none, .fa 2 (.t 5)⟩,
      ⟨some 16, none, .ld (.t 15)⟩,
      ⟨some 17, none, .mv (.t 0)⟩,
      ⟨some 18, none, .fa 2 (.t 5)⟩,
      ⟨some 19, none, .ld (.t 18)⟩,
      ⟨some 22, none, .fa 2 (.t 5)⟩,
      ⟨some 23, none, .ld (.t 22)⟩,
      ⟨some 24, none, .bin .sub (.t 23) (.k (.i .i64 1))⟩,
      ⟨some 25, none, .mx (.k (.i .i64 1)) (.t 24)⟩,
      ⟨some 27, none, .mv (.t 0)⟩]
      (.one 5 ⟨some 20, none, .call (.k (.fn n_spec_l20Rd_pick [] [])) [.t 17, .t 19]⟩ [(16, none, 15), (23, none, 22)] [6]
        [⟨some 21, none, .bin .add (.k (.i .i64 1)) (.t 20)⟩]
      (.alt (.one 11 ⟨some 26, none, .bsl ty_int [.i .i64 0] 3 [(0, 1, .t 16), (1, 1, .t 21), (2, 1, .t 25)]⟩ [(19, none, 18), (23, none, 22)] []
        []
      (.one 13 ⟨some 28, none, .call (.k (.fn n_spec_l20Rd_pick [] [])) [.t 27, .k (.i .i64 3)]⟩ [(16, none, 15), (19, none, 18), (23, none, 22)] [14, 15, 16]
        [⟨some 29, none, .ia 1 (.t 26) (.t 28)⟩,
        ⟨some 30, none, .ld (.t 29)⟩,
        ⟨some 31, none, .fa 1 (.t 5)⟩]
      (.one 17 ⟨none, none, .st 1 (.t 31) (.t 30)⟩ [] []
        []
      .fin))) (.one 13 ⟨some 28, none, .call (.k (.fn n_spec_l20Rd_pick [] [])) [.t 27, .k (.i .i64 3)]⟩ [(16, none, 15), (19, none, 18), (23, none, 22)] []
        []
      (.one 11 ⟨some 26, none, .bsl ty_int [.i .i64 0] 3 [(0, 1, .t 16), (1, 1, .t 21), (2, 1, .t 25)]⟩ [(19, none, 18), (23, none, 22)] [14, 15, 16]
        [⟨some 29, none, .ia 1 (.t 26) (.t 28)⟩,
        ⟨some 30, none, .ld (.t 29)⟩,
        ⟨some 31, none, .fa 1 (.t 5)⟩]
      (.one 17 ⟨none, none, .st 1 (.t 31) (.t 30)⟩ [] []
        []
      .fin))))))
    (.join (.plan [0, 1, 2, 3, 4, 5, 6, 7, 8, 9, 10, 12] [⟨some 32, none, .mv (.t 0)⟩,
      ⟨some 33, none, .fa 1 (.t 5)⟩,
      ⟨some 34, none, .ld (.t 33)⟩,
      ⟨some 35, none, .fa 1 (.t 5)⟩,
      ⟨some 36, none, .ld (.t 35)⟩,
      ⟨some 37, none, .bin .quo (.t 36) (.k (.i .i64 2))⟩,
      ⟨some 38, none, .mx (.k (.i .i64 1)) (.t 37)⟩,
      ⟨some 39, none, .fa 1 (.t 5)⟩,
      ⟨some 40, none, .ld (.t 39)⟩,
      ⟨some 41, none, .bin .quo (.t 40) (.k (.i .i64 3))⟩,
      ⟨some 42, none, .mx (.k (.i .i64 1)) (.t 41)⟩,
      ⟨some 44, none, .mv (.t 0)⟩]
      (.alt (.one 11 ⟨some 43, none, .bsl ty_int [.i .i64 0] 3 [(0, 1, .t 34), (1, 1, .t 38), (2, 1, .t 42)]⟩ [(36, none, 35), (40, none, 39)] []
        []
      (.one 13 ⟨some 45, none, .call (.k (.fn n_spec_l20Rd_pick [] [])) [.t 44, .k (.i .i64 3)]⟩ [(34, none, 33), (36, none, 35), (40, none, 39)] [14, 15, 16]
        [⟨some 46, none, .ia 1 (.t 43) (.t 45)⟩,
        ⟨some 47, none, .ld (.t 46)⟩,
        ⟨some 48, none, .mn (.k (.i .i64 8)) (.t 47)⟩]
      (.one 17 ⟨some 49, none, .call (.k (.fn n_spec_l20Rd_pick [] [])) [.t 32, .t 48]⟩ [(34, none, 33), (36, none, 35), (40, none, 39), (47, none, 46)] [18, 19]
        [⟨some 50, none, .bin .add (.k (.i .i64 1)) (.t 49)⟩,
        ⟨some 51, none, .fa 0 (.t 5)⟩]
      (.one 20 ⟨none, none, .st 1 (.t 51) (.t 50)⟩ [] []
        []
      .fin)))) (.one 13 ⟨some 45, none, .call (.k (.fn n_spec_l20Rd_pick [] [])) [.t 44, .k (.i .i64 3)]⟩ [(34, none, 33), (36, none, 35), (40, none, 39)] []
        []
      (.one 11 ⟨some 43, none, .bsl ty_int [.i .i64 0] 3 [(0, 1, .t 34), (1, 1, .t 38), (2, 1, .t 42)]⟩ [(36, none, 35), (40, none, 39)] [14, 15, 16]
        [⟨some 46, none, .ia 1 (.t 43) (.t 45)⟩,
        ⟨some 47, none, .ld (.t 46)⟩,
        ⟨some 48, none, .mn (.k (.i .i64 8)) (.t 47)⟩]
      (.one 17 ⟨some 49, none, .call (.k (.fn n_spec_l20Rd_pick [] [])) [.t 32, .t 48]⟩ [(34, none, 33), (36, none, 35), (40, none, 39), (47, none, 46)] [18, 19]
        [⟨some 50, none, .bin .add (.k (.i .i64 1)) (.t 49)⟩,
        ⟨some 51, none, .fa 0 (.t 5)⟩]
      (.one 20 ⟨none, none, .st 1 (.t 51) (.t 50)⟩ [] []
        []
      .fin))))))
    (.join (.seq (.ops [⟨some 52, none, .mv (.t 0)⟩,
      ⟨some 53, none, .mv (.t 1)⟩,
      ⟨some 54, none, .call (.k (.fn n_spec_l20Rd_odd [] [])) [.t 52, .t 53]⟩])
    (.cond (.t 54) (.seq (.ops [⟨some 55, none, .mv (.t 0)⟩,
      ⟨some 56, none, .call (.k (.fn n_spec_l20Rd_pick [] [])) [.t 55, .k (.i .i64 3)]⟩])
    (.block 0 (.seq (.ops [⟨some 64, none, .bin .eql (.t 56) (.k (.i .i64 0))⟩,
      ⟨some 63, none, .mv (.t 64)⟩])
    (.cond (.t 63) (.plan [0, 1, 2, 4] [⟨some 65, none, .fa 1 (.t 5)⟩,
      ⟨some 66, none, .ld (.t 65)⟩,
      ⟨some 67, none, .bin .add (.t 66) (.k (.i .i64 1))⟩,
      ⟨some 69, none, .mv (.t 0)⟩]
      (.alt (.one 3 ⟨some 68, none, .bsl ty_int [.i .i64 0] 4 [(0, 1, .k (.i .i64 0)), (1, 1, .k (.i .i64 (-1))), (2, 1, .k (.i .i64 9)), (3, 1, .t 67)]⟩ [(66, none, 65)] []
        []
      (.one 5 ⟨some 70, none, .call (.k (.fn n_spec_l20Rd_pick [] [])) [.t 69, .k (.i .i64 4)]⟩ [(66, none, 65)] [6, 7, 8]
        [⟨some 71, none, .ia 1 (.t 68) (.t 70)⟩,
        ⟨some 72, none, .ld (.t 71)⟩,
        ⟨some 73, none, .fa 0 (.t 5)⟩]
      (.one 9 ⟨none, none, .st 1 (.t 73) (.t 72)⟩ [] []
        []
      .fin))) (.one 5 ⟨some 70, none, .call (.k (.fn n_spec_l20Rd_pick [] [])) [.t 69, .k (.i .i64 4)]⟩ [(66, none, 65)] []
        []
      (.one 3 ⟨some 68, none, .bsl ty_int [.i .i64 0] 4 [(0, 1, .k (.i .i64 0)), (1, 1, .k (.i .i64 (-1))), (2, 1, .k (.i .i64 9)), (3, 1, .t 67)]⟩ [(66, none, 65)] [6, 7, 8]
        [⟨some 71, none, .ia 1 (.t 68) (.t 70)⟩,
        ⟨some 72, none, .ld (.t 71)⟩,
        ⟨some 73, none, .fa 0 (.t 5)⟩]
      (.one 9 ⟨none, none, .st 1 (.t 73) (.t 72)⟩ [] []
        []
      .fin)))))
    (.seq (.ops [⟨some 75, none, .bin .eql (.t 56) (.k (.i .i64 1))⟩,
      ⟨some 74, none, .mv (.t 75)⟩])
    (.cond (.t 74) (.plan [0, 1, 2, 4] [⟨some 76, none, .fa 2 (.t 5)⟩,
      ⟨some 77, none, .ld (.t 76)⟩,
      ⟨some 78, none, .bin .add (.t 77) (.k (.i .i64 1))⟩,
      ⟨some 80, none, .mv (.t 0)⟩]
      (.alt (.one 3 ⟨some 79, none, .bsl ty_int [.i .i64 0] 3 [(0, 1, .k (.i .i64 0)), (1, 1, .t 78), (2, 1, .k (.i .i64 (-1)))]⟩ [(77, none, 76)] []
        []
      (.one 5 ⟨some 81, none, .call (.k (.fn n_spec_l20Rd_pick [] [])) [.t 80, .k (.i .i64 3)]⟩ [(77, none, 76)] [6, 7, 8]
        [⟨some 82, none, .ia 1 (.t 79) (.t 81)⟩,
        ⟨some 83, none, .ld (.t 82)⟩,
        ⟨some 84, none, .fa 1 (.t 5)⟩]
      (.one 9 ⟨none, none, .st 1 (.t 84) (.t 83)⟩ [] []
        []
      .fin))) (.one 5 ⟨some 81, none, .call (.k (.fn n_spec_l20Rd_pick [] [])) [.t 80, .k (.i .i64 3)]⟩ [(77, none, 76)] []
        []
      (.one 3 ⟨some 79, none, .bsl ty_int [.i .i64 0] 3 [(0, 1, .k (.i .i64 0)), (1, 1, .t 78), (2, 1, .k (.i .i64 (-1)))]⟩ [(77, none, 76)] [6, 7, 8]
        [⟨some 82, none, .ia 1 (.t 79) (.t 81)⟩,
        ⟨some 83, none, .ld (.t 82)⟩,
        ⟨some 84, none, .fa 1 (.t 5)⟩]
      (.one 9 ⟨none, none, .st 1 (.t 84) (.t 83)⟩ [] []
        []
      .fin)))))
    (.ops [⟨some 57, none, .bsl ty_int [.i .i64 0] 3 [(0, 1, .k (.i .i64 0)), (1, 1, .k (.i .i64 13)), (2, 1, .k (.i .i64 (-1)))]⟩,
      ⟨some 58, none, .mv (.t 0)⟩,
      ⟨some 59, none, .call (.k (.fn n_spec_l20Rd_pick [] [])) [.t 58, .k (.i .i64 3)]⟩,
      ⟨some 60, none, .ia 1 (.t 57) (.t 59)⟩,
      ⟨some 61, none, .ld (.t 60)⟩,
      ⟨some 62, none, .fa 2 (.t 5)⟩,
      ⟨none, none, .st 1 (.t 62) (.t 61)⟩])))))))
    (.skip)))
    (.seq (.ops [⟨some 85, none, .ldn 3 (.t 5)⟩,
      ⟨none, none, .st 3 (.t 4) (.t 85)⟩])
    (.ret))))))
theorem k_spec_l20Task : chkF Tryz.prog Tryz.f38 86 c_spec_l20Task [.c 4 (some 3)] = true := by kernel_rfl
theorem call_spec_l20Task {args : List AV} {σ : List AB} {K : AV → List AB → Prop} (hn : args.length ≤ 86) (hw : wpC Tryz.prog σ.length 86 c_spec_l20Task (retP σ.length [.c 4 (some 3)] K) ⟨initT 0 args, σ⟩) : CallWp Tryz.prog n_spec_l20Task args σ K := call_fn mixed Tryz.func38 k_spec_l20Task hn hw
def c_spec_TaskValid : LC := .seq (.ops [⟨some 1, none, .box ty_impl_Task (.t 0)⟩,
      ⟨some 2, none, .mv (.k (.b false))⟩])
    (.seq (.ops [⟨some 3, none, .fa 0 (.t 1)⟩,
      ⟨some 4, none, .ld (.t 3)⟩,
      ⟨some 5, none, .call (.k (.fn n_spec_l1In [] [])) [.t 4, .k (.i .i64 1), .k (.i .i64 8)]⟩,
      ⟨some 6, none, .mv (.t 5)⟩,
      ⟨some 7, (some (6, true)), .fa 1 (.t 1)⟩,
      ⟨some 8, (some (6, true)), .ld (.t 7)⟩,
      ⟨some 9, (some (6, true)), .fa 0 (.t 1)⟩,
      ⟨some 10, (some (6, true)), .ld (.t 9)⟩,
      ⟨some 11, (some (6, true)), .fa 2 (.t 1)⟩,
      ⟨some 12, (some (6, true)), .ld (.t 11)⟩,
      ⟨some 13, (some (6, true)), .call (.k (.fn n_spec_l1In [] [])) [.t 8, .t 10, .t 12]⟩,
      ⟨some 14, none, .pick (.t 6) (.t 13) (.k (.b false))⟩,
      ⟨some 15, none, .mv (.t 14)⟩,
      ⟨some 16, (some (15, true)), .fa 2 (.t 1)⟩,
      ⟨some 17, (some (15, true)), .ld (.t 16)⟩,
      ⟨some 18, (some (15, true)), .call (.k (.fn n_spec_l1In [] [])) [.t 17, .k (.i .i64 1), .k (.i .i64 12)]⟩,
      ⟨some 19, none, .pick (.t 15) (.t 18) (.k (.b false))⟩,
      ⟨some 2, none, .mv (.t 19)⟩])
    (.ret))
theorem k_spec_TaskValid : chkF Tryz.prog Tryz.f39 20 c_spec_TaskValid [.t 2] = true := by kernel_rfl
theorem call_spec_TaskValid {args : List AV} {σ : List AB} {K : AV → List AB → Prop} (hn : args.length ≤ 20) (hw : wpC Tryz.prog σ.length 20 c_spec_TaskValid (retP σ.length [.t 2] K) ⟨initT 0 args, σ⟩) : CallWp Tryz.prog n_spec_TaskValid args σ K := call_fn mixed Tryz.func39 k_spec_TaskValid hn hw
def c_impl_reduced : LC := .seq (.ops [⟨some 4, none, .alloc ty_impl_Fraction [.i .i64 0, .i .i64 0]⟩])
    (.seq (.ops [⟨some 6, none, .mv (.t 0)⟩,
      ⟨some 7, none, .mv (.t 1)⟩,
      ⟨some 8, none, .call (.k (.fn n_impl_gcd [] [])) [.t 6, .t 7]⟩,
      ⟨some 5, none, .mv (.t 8)⟩])
    (.seq (.draw 7 [⟨some 9, none, .mv (.t 0)⟩,
      ⟨some 10, none, .mv (.t 5)⟩,
      ⟨some 11, none, .bin .quo (.t 9) (.t 10)⟩,
      ⟨some 12, none, .mv (.t 1)⟩,
      ⟨some 13, none, .mv (.t 5)⟩,
      ⟨some 14, none, .bin .quo (.t 12) (.t 13)⟩,
      ⟨some 15, none, .build [.i .i64 0, .i .i64 0] [(0, 1, .t 11), (1, 1, .t 14)]⟩,
      ⟨none, none, .st 2 (.t 4) (.t 15)⟩])
    (.ret)))
theorem k_impl_reduced : chkF Tryz.prog Tryz.f41 16 c_impl_reduced [.c 4 (some 2)] = true := by kernel_rfl
theorem call_impl_reduced {args : List AV} {σ : List AB} {K : AV → List AB → Prop} (hn : args.length ≤ 16) (hw : wpC Tryz.prog σ.length 16 c_impl_reduced (retP σ.length [.c 4 (some 2)] K) ⟨initT 0 args, σ⟩) : CallWp Tryz.prog n_impl_reduced args σ K := call_fn mixed Tryz.func41 k_impl_reduced hn hw
def l0_impl_load : LC := .seq (.ops [⟨some 12, none, .bin .lss (.t 11) (.t 10)⟩])
    (.seq (.cond (.t 12) (.skip)
    (.exit 0))
    (.seq (.block 1 (.seq (.ops [⟨some 13, none, .ia 3 (.t 9) (.t 11)⟩,
      ⟨some 14, none, .ldn 3 (.t 13)⟩,
      ⟨some 6, none, .alloc ty_impl_Task [.i .i64 0, .i .i64 0, .i .i64 0]⟩,
      ⟨none, none, .st 3 (.t 6) (.t 14)⟩])
    (.draw 9 [⟨some 15, none, .mv (.t 4)⟩,
      ⟨some 16, none, .mv (.t 3)⟩,
      ⟨some 17, none, .fa 2 (.t 6)⟩,
      ⟨some 18, none, .ld (.t 17)⟩,
      ⟨some 19, none, .bin .quo (.t 16) (.t 18)⟩,
      ⟨some 20, none, .fa 0 (.t 6)⟩,
      ⟨some 21, none, .ld (.t 20)⟩,
      ⟨some 22, none, .bin .mul (.t 19) (.t 21)⟩,
      ⟨some 23, none, .bin .add (.t 15) (.t 22)⟩,
      ⟨some 4, none, .mv (.t 23)⟩])))
    (.ops [⟨some 24, none, .bin .add (.t 11) (.k (.i .i64 1))⟩,
      ⟨some 11, none, .mv (.t 24)⟩])))
def c_impl_load : LC := .seq (.ops [⟨some 2, none, .mv (.k (.i .i64 0))⟩])
    (.seq (.ops [⟨some 7, none, .mv (.t 0)⟩,
      ⟨some 8, none, .call (.k (.fn n_impl_hyper [] [])) [.t 7]⟩,
      ⟨some 3, none, .mv (.t 8)⟩,
      ⟨some 4, none, .mv (.k (.i .i64 0))⟩])
    (.seq (.seq (.ops [⟨some 9, none, .mv (.t 0)⟩,
      ⟨some 10, none, .len (.t 9)⟩,
      ⟨some 11, none, .mv (.k (.i .i64 0))⟩])
    (.block 0 (.loop l0_impl_load)))
    (.seq (.ops [⟨some 25, none, .mv (.t 4)⟩,
      ⟨some 2, none, .mv (.t 25)⟩])
    (.ret))))
theorem k_impl_load : chkF Tryz.prog Tryz.f42 26 c_impl_load [.t 2] = true := by kernel_rfl
theorem call_impl_load {args : List AV} {σ : List AB} {K : AV → List AB → Prop} (hn : args.length ≤ 26) (hw : wpC Tryz.prog σ.length 26 c_impl_load (retP σ.length [.t 2] K) ⟨initT 0 args, σ⟩) : CallWp Tryz.prog n_impl_load args σ K := call_fn mixed Tryz.func42 k_impl_load hn hw
def l0_impl_hyper : LC := .seq (.ops [⟨some 9, none, .bin .lss (.t 8) (.t 7)⟩])
    (.seq (.cond (.t 9) (.skip)
    (.exit 0))
    (.seq (.block 1 (.seq (.ops [⟨some 10, none, .ia 3 (.t 6) (.t 8)⟩,
      ⟨some 11, none, .ldn 3 (.t 10)⟩,
      ⟨some 5, none, .alloc ty_impl_Task [.i .i64 0, .i .i64 0, .i .i64 0]⟩,
      ⟨none, none, .st 3 (.t 5) (.t 11)⟩])
    (.ops [⟨some 12, none, .mv (.t 3)⟩,
      ⟨some 13, none, .fa 2 (.t 5)⟩,
      ⟨some 14, none, .ld (.t 13)⟩,
      ⟨some 15, none, .call (.k (.fn n_impl_lcm [] [])) [.t 12, .t 14]⟩,
      ⟨some 3, none, .mv (.t 15)⟩])))
    (.ops [⟨some 16, none, .bin .add (.t 8) (.k (.i .i64 1))⟩,
      ⟨some 8, none, .mv (.t 16)⟩])))
def c_impl_hyper : LC := .seq (.ops [⟨some 2, none, .mv (.k (.i .i64 0))⟩])
    (.seq (.ops [⟨some 3, none, .mv (.k (.i .i64 1))⟩])
    (.seq (.seq (.ops [⟨some 6, none, .mv (.t 0)⟩,
      ⟨some 7, none, .len (.t 6)⟩,
      ⟨some 8, none, .mv (.k (.i .i64 0))⟩])
    (.block 0 (.loop l0_impl_hyper)))
    (.seq (.ops [⟨some 17, none, .mv (.t 3)⟩,
      ⟨some 2, none, .mv (.t 17)⟩])
    (.ret))))
theorem k_impl_hyper : chkF Tryz.prog Tryz.f43 18 c_impl_hyper [.t 2] = true := by kernel_rfl
theorem call_impl_hyper {args : List AV} {σ : List AB} {K : AV → List AB → Prop} (hn : args.length ≤ 18) (hw : wpC Tryz.prog σ.length 18 c_impl_hyper (retP σ.length [.t 2] K) ⟨initT 0 args, σ⟩) : CallWp Tryz.prog n_impl_hyper args σ K := call_fn mixed Tryz.func43 k_impl_hyper hn hw
def l0_impl_demand : LC := .seq (.ops [⟨some 11, none, .bin .lss (.t 10) (.t 9)⟩])
    (.seq (.cond (.t 11) (.skip)
    (.exit 0))
    (.seq (.block 1 (.seq (.ops [⟨some 12, none, .ia 3 (.t 8) (.t 10)⟩,
      ⟨some 13, none, .ldn 3 (.t 12)⟩,
      ⟨some 7, none, .alloc ty_impl_Task [.i .i64 0, .i .i64 0, .i .i64 0]⟩,
      ⟨none, none, .st 3 (.t 7) (.t 13)⟩])
    (.seq (.ops [⟨some 14, none, .mv (.t 1)⟩,
      ⟨some 15, none, .fa 1 (.t 7)⟩,
      ⟨some 16, none, .ld (.t 15)⟩,
      ⟨some 17, none, .bin .geq (.t 14) (.t 16)⟩])
    (.cond (.t 17) (.draw 13 [⟨some 18, none, .mv (.t 5)⟩,
      ⟨some 19, none, .mv (.t 1)⟩,
      ⟨some 20, none, .fa 1 (.t 7)⟩,
      ⟨some 21, none, .ld (.t 20)⟩,
      ⟨some 22, none, .bin .sub (.t 19) (.t 21)⟩,
      ⟨some 23, none, .fa 2 (.t 7)⟩,
      ⟨some 24, none, .ld (.t 23)⟩,
      ⟨some 25, none, .bin .quo (.t 22) (.t 24)⟩,
      ⟨some 26, none, .bin .add (.t 25) (.k (.i .i64 1))⟩,
      ⟨some 27, none, .fa 0 (.t 7)⟩,
      ⟨some 28, none, .ld (.t 27)⟩,
      ⟨some 29, none, .bin .mul (.t 26) (.t 28)⟩,
      ⟨some 30, none, .bin .add (.t 18) (.t 29)⟩,
      ⟨some 5, none, .mv (.t 30)⟩])
    (.skip)))))
    (.ops [⟨some 31, none, .bin .add (.t 10) (.k (.i .i64 1))⟩,
      ⟨some 10, none, .mv (.t 31)⟩])))
def c_impl_demand : LC := .seq (.ops [⟨some 4, none, .mv (.k (.i .i64 0))⟩])
    (.seq (.ops [⟨some 5, none, .mv (.k (.i .i64 0))⟩])
    (.seq (.seq (.ops [⟨some 8, none, .mv (.t 0)⟩,
      ⟨some 9, none, .len (.t 8)⟩,
      ⟨some 10, none, .mv (.k (.i .i64 0))⟩])
    (.block 0 (.loop l0_impl_demand)))
    (.seq (.ops [⟨some 32, none, .mv (.t 5)⟩,
      ⟨some 4, none, .mv (.t 32)⟩])
    (.ret))))
theorem k_impl_demand : chkF Tryz.prog Tryz.f44 33 c_impl_demand [.t 4] = true := by kernel_rfl
theorem call_impl_demand {args : List AV} {σ : List AB} {K : AV → List AB → Prop} (hn : args.length ≤ 33) (hw : wpC Tryz.prog σ.length 33 c_impl_demand (retP σ.length [.t 4] K) ⟨initT 0 args, σ⟩) : CallWp Tryz.prog n_impl_demand args σ K := call_fn mixed Tryz.func44 k_impl_demand hn hw
def l0_impl_OrderValid : LC := .seq (.ops [⟨some 10, none, .bin .lss (.t 9) (.t 8)⟩])
    (.seq (.cond (.t 10) (.skip)
    (.exit 0))
    (.seq (.block 1 (.seq (.ops [⟨some 11, none, .mv (.t 9)⟩,
      ⟨some 12, none, .ia 1 (.t 7) (.t 9)⟩,
      ⟨some 13, none, .ld (.t 12)⟩,
      ⟨some 5, none, .mv (.t 11)⟩,
      ⟨some 6, none, .mv (.t 13)⟩])
    (.seq (.ops [⟨some 14, none, .mv (.t 6)⟩,
      ⟨some 15, none, .mv (.t 0)⟩,
      ⟨some 16, none, .len (.t 15)⟩,
      ⟨some 17, none, .bin .sub (.t 16) (.k (.i .i64 1))⟩,
      ⟨some 18, none, .call (.k (.fn n_impl_in [] [])) [.t 14, .k (.i .i64 0), .t 17]⟩,
      ⟨some 19, none, .not (.t 18)⟩,
      ⟨some 20, none, .mv (.t 19)⟩,
      ⟨some 21, (some (20, false)), .mv (.t 1)⟩,
      ⟨some 22, (some (20, false)), .mv (.t 6)⟩,
      ⟨some 23, (some (20, false)), .call (.k (.fn n_slices_Index_int [] [])) [.t 21, .t 22]⟩,
      ⟨some 24, (some (20, false)), .mv (.t 5)⟩,
      ⟨some 25, (some (20, false)), .bin .neq (.t 23) (.t 24)⟩,
      ⟨some 26, none, .pick (.t 20) (.k (.b true)) (.t 25)⟩])
    (.cond (.t 26) (.seq (.ops [⟨some 4, none, .mv (.k (.b false))⟩])
    (.ret))
    (.skip)))))
    (.ops [⟨some 27, none, .bin .add (.t 9) (.k (.i .i64 1))⟩,
      ⟨some 9, none, .mv (.t 27)⟩])))
def c_impl_OrderValid : LC := .seq (.ops [⟨some 4, none, .mv (.k (.b false))⟩])
    (.seq (.seq (.ops [⟨some 7, none, .mv (.t 1)⟩,
      ⟨some 8, none, .len (.t 7)⟩,
      ⟨some 9, none, .mv (.k (.i .i64 0))⟩])
    (.block 0 (.loop l0_impl_OrderValid)))
    (.seq (.ops [⟨some 28, none, .mv (.t 0)⟩,
      ⟨some 29, none, .call (.k (.fn n_impl_SetValid [] [])) [.t 28]⟩,
      ⟨some 30, none, .mv (.t 29)⟩,
      ⟨some 31, (some (30, true)), .mv (.t 1)⟩,
      ⟨some 32, (some (30, true)), .len (.t 31)⟩,
      ⟨some 33, (some (30, true)), .mv (.t 0)⟩,
      ⟨some 34, (some (30, true)), .len (.t 33)⟩,
      ⟨some 35, (some (30, true)), .bin .eql (.t 32) (.t 34)⟩,
      ⟨some 36, none, .pick (.t 30) (.t 35) (.k (.b false))⟩,
      ⟨some 4, none, .mv (.t 36)⟩])
    (.ret)))
theorem k_impl_OrderValid : chkF Tryz.prog Tryz.f45 37 c_impl_OrderValid [.t 4] = true := by kernel_rfl
theorem call_impl_OrderValid {args : List AV} {σ : List AB} {K : AV → List AB → Prop} (hn : args.length ≤ 37) (hw : wpC Tryz.prog σ.length 37 c_impl_OrderValid (retP σ.length [.t 4] K) ⟨initT 0 args, σ⟩) : CallWp Tryz.prog n_impl_OrderValid args σ K := call_fn mixed Tryz.func45 k_impl_OrderValid hn hw
def l0_impl_responses : LC := .seq (.ops [⟨some 16, none, .bin .lss (.t 15) (.t 14)⟩])
    (.seq (.cond (.t 16) (.skip)
    (.exit 0))
    (.seq (.block 1 (.seq (.ops [⟨some 17, none, .mv (.t 15)⟩,
      ⟨some 18, none, .ia 1 (.t 13) (.t 15)⟩,
      ⟨some 19, none, .ld (.t 18)⟩,
      ⟨some 8, none, .mv (.t 17)⟩,
      ⟨some 9, none, .mv (.t 19)⟩])
    (.ops [⟨some 20, none, .mv (.t 7)⟩,
      ⟨some 21, none, .mv (.t 9)⟩,
      ⟨some 22, none, .mv (.t 0)⟩,
      ⟨some 23, none, .mv (.t 1)⟩,
      ⟨some 24, none, .mv (.t 9)⟩,
      ⟨some 25, none, .mv (.t 2)⟩,
      ⟨some 26, none, .mv (.t 8)⟩,
      ⟨some 27, none, .slc 1 (.t 25) none (some (.t 26)) none⟩,
      ⟨some 28, none, .call (.k (.fn n_impl_response [] [])) [.t 22, .t 23, .t 24, .t 27]⟩,
      ⟨some 29, none, .ia 1 (.t 20) (.t 21)⟩,
      ⟨none, none, .st 1 (.t 29) (.t 28)⟩])))
    (.ops [⟨some 30, none, .bin .add (.t 15) (.k (.i .i64 1))⟩,
      ⟨some 15, none, .mv (.t 30)⟩])))
def c_impl_responses : LC := .seq (.ops [⟨some 6, none, .mv (.k (.sn))⟩])
    (.seq (.ops [⟨some 10, none, .mv (.t 0)⟩,
      ⟨some 11, none, .len (.t 10)⟩,
      ⟨some 12, none, .msl ty_int 8 [.i .i64 0] (.t 11)⟩,
      ⟨some 7, none, .mv (.t 12)⟩])
    (.seq (.seq (.ops [⟨some 13, none, .mv (.t 2)⟩,
      ⟨some 14, none, .len (.t 13)⟩,
      ⟨some 15, none, .mv (.k (.i .i64 0))⟩])
    (.block 0 (.loop l0_impl_responses)))
    (.seq (.ops [⟨some 31, none, .mv (.t 7)⟩,
      ⟨some 6, none, .mv (.t 31)⟩])
    (.ret))))
theorem k_impl_responses : chkF Tryz.prog Tryz.f46 32 c_impl_responses [.t 6] = true := by kernel_rfl
theorem call_impl_responses {args : List AV} {σ : List AB} {K : AV → List AB → Prop} (hn : args.length ≤ 32) (hw : wpC Tryz.prog σ.length 32 c_impl_responses (retP σ.length [.t 6] K) ⟨initT 0 args, σ⟩) : CallWp Tryz.prog n_impl_responses args σ K := call_fn mixed Tryz.func46 k_impl_responses hn hw
def l0_impl_indices : LC := .seq (.ops [⟨some 10, none, .bin .lss (.t 9) (.t 8)⟩])
    (.seq (.cond (.t 10) (.skip)
    (.exit 0))
    (.seq (.block 1 (.seq (.ops [⟨some 11, none, .mv (.t 9)⟩,
      ⟨some 4, none, .mv (.t 11)⟩])
    (.ops [⟨some 12, none, .mv (.t 3)⟩,
      ⟨some 13, none, .mv (.t 4)⟩,
      ⟨some 14, none, .mv (.t 4)⟩,
      ⟨some 15, none, .ia 1 (.t 12) (.t 13)⟩,
      ⟨none, none, .st 1 (.t 15) (.t 14)⟩])))
    (.ops [⟨some 16, none, .bin .add (.t 9) (.k (.i .i64 1))⟩,
      ⟨some 9, none, .mv (.t 16)⟩])))
def c_impl_indices : LC := .seq (.ops [⟨some 2, none, .mv (.k (.sn))⟩])
    (.seq (.ops [⟨some 5, none, .mv (.t 0)⟩,
      ⟨some 6, none, .msl ty_int 8 [.i .i64 0] (.t 5)⟩,
      ⟨some 3, none, .mv (.t 6)⟩])
    (.seq (.seq (.ops [⟨some 7, none, .mv (.t 3)⟩,
      ⟨some 8, none, .len (.t 7)⟩,
      ⟨some 9, none, .mv (.k (.i .i64 0))⟩])
    (.block 0 (.loop l0_impl_indices)))
    (.seq (.ops [⟨some 17, none, .mv (.t 3)⟩,
      ⟨some 2, none, .mv (.t 17)⟩])
    (.ret))))
theorem k_impl_indices : chkF Tryz.prog Tryz.f47 18 c_impl_indices [.t 2] = true := by kernel_rfl
theorem call_impl_indices {args : List AV} {σ : List AB} {K : AV → List AB → Prop} (hn : args.length ≤ 18) (hw : wpC Tryz.prog σ.length 18 c_impl_indices (retP σ.length [.t 2] K) ⟨initT 0 args, σ⟩) : CallWp Tryz.prog n_impl_indices args σ K := call_fn mixed Tryz.func47 k_impl_indices hn hw
def c_slices_SortStableFunc_int : LC := .ops [⟨some 4, none, .mv (.t 0)⟩,
      ⟨some 5, none, .mv (.t 0)⟩,
      ⟨some 6, none, .len (.t 5)⟩,
      ⟨some 7, none, .mv (.t 1)⟩,
      ⟨some 8, none, .call (.k (.fn n_slices_stableCmpFunc_int [] [])) [.t 4, .t 6, .t 7]⟩]
theorem k_slices_SortStableFunc_int : chkF Tryz.prog Tryz.f48 9 c_slices_SortStableFunc_int [] = true := by kernel_rfl
theorem call_slices_SortStableFunc_int {args : List AV} {σ : List AB} {K : AV → List AB → Prop} (hn : args.length ≤ 9) (hw : wpC Tryz.prog σ.length 9 c_slices_SortStableFunc_int (retP σ.length [] K) ⟨initT 0 args, σ⟩) : CallWp Tryz.prog n_slices_SortStableFunc_int args σ K := call_fn mixed Tryz.func48 k_slices_SortStableFunc_int hn hw
def c_impl_DeadlineMonotonic_1 : LC := .seq (.ops [⟨some 5, none, .mv (.k (.i .i64 0))⟩])
    (.seq (.draw 11 [⟨some 6, none, .ld (.t 2)⟩,
      ⟨some 7, none, .mv (.t 0)⟩,
      ⟨some 8, none, .ia 3 (.t 6) (.t 7)⟩,
      ⟨some 9, none, .fa 1 (.t 8)⟩,
      ⟨some 10, none, .ld (.t 9)⟩,
      ⟨some 11, none, .ld (.t 2)⟩,
      ⟨some 12, none, .mv (.t 1)⟩,
      ⟨some 13, none, .ia 3 (.t 11) (.t 12)⟩,
      ⟨some 14, none, .fa 1 (.t 13)⟩,
      ⟨some 15, none, .ld (.t 14)⟩,
      ⟨some 16, none, .bin .sub (.t 10) (.t 15)⟩,
      ⟨some 5, none, .mv (.t 16)⟩])
    (.ret))
theorem k_impl_DeadlineMonotonic_1 : chkF Tryz.prog Tryz.f49 17 c_impl_DeadlineMonotonic_1 [.t 5] = true := by kernel_rfl
theorem call_impl_DeadlineMonotonic_1 {args : List AV} {σ : List AB} {K : AV → List AB → Prop} (hn : args.length ≤ 17) (hw : wpC Tryz.prog σ.length 17 c_impl_DeadlineMonotonic_1 (retP σ.length [.t 5] K) ⟨initT 0 args, σ⟩) : CallWp Tryz.prog n_impl_DeadlineMonotonic_1 args σ K := call_fn mixed Tryz.func49 k_impl_DeadlineMonotonic_1 hn hw
def l0_spec_l10Fields : LC := .seq (.seq (.ops [⟨some 7, none, .mv (.t 5)⟩,
      ⟨some 8, none, .mv (.t 0)⟩,
      ⟨some 9, none, .slen (.t 8)⟩,
      ⟨some 10, none, .bin .lss (.t 7) (.t 9)⟩])
    (.cond (.t 10) (.skip)
    (.exit 0)))
    (.seq (.block 1 (.seq (.ops [⟨some 13, none, .mv (.t 0)⟩,
      ⟨some 14, none, .mv (.t 5)⟩,
      ⟨some 15, none, .sidx (.t 13) (.t 14)⟩,
      ⟨some 16, none, .bin .eql (.t 15) (.k (.i .u8 32))⟩])
    (.cond (.t 16) (.seq (.ops [⟨some 17, none, .mv (.t 3)⟩,
      ⟨some 18, none, .mv (.t 4)⟩,
      ⟨some 19, none, .bsl ty_string [.s .empty] 1 [(0, 1, .t 18)]⟩,
      ⟨some 20, none, .app ty_string 1 16 (.t 17) (.t 19)⟩,
      ⟨some 3, none, .mv (.t 20)⟩])
    (.ops [⟨some 4, none, .mv (.k (.s (bs [])))⟩]))
    (.ops [⟨some 21, none, .mv (.t 4)⟩,
      ⟨some 22, none, .mv (.t 0)⟩,
      ⟨some 23, none, .mv (.t 5)⟩,
      ⟨some 24, none, .mv (.t 5)⟩,
      ⟨some 25, none, .bin .add (.t 24) (.k (.i .i64 1))⟩,
      ⟨some 26, none, .sslc (.t 22) (some (.t 23)) (some (.t 25))⟩,
      ⟨some 27, none, .sadd (.t 21) (.t 26)⟩,
      ⟨some 4, none, .mv (.t 27)⟩]))))
    (.ops [⟨some 11, none, .mv (.t 5)⟩,
      ⟨some 12, none, .bin .add (.t 11) (.k (.i .i64 1))⟩,
      ⟨some 5, none, .mv (.t 12)⟩]))
def c_spec_l10Fields : LC := .seq (.ops [⟨some 2, none, .mv (.k (.sn))⟩])
    (.seq (.ops [⟨some 6, none, .bsl ty_string [.s .empty] 0 []⟩,
      ⟨some 3, none, .mv (.t 6)⟩])
    (.seq (.ops [⟨some 4, none, .mv (.k (.s (bs [])))⟩])
    (.seq (.seq (.ops [⟨some 5, none, .mv (.k (.i .i64 0))⟩])
    (.block 0 (.loop l0_spec_l10Fields)))
    (.seq (.ops [⟨some 28, none, .mv (.t 3)⟩,
      ⟨some 29, none, .mv (.t 4)⟩,
      ⟨some 30, none, .bsl ty_string [.s .empty] 1 [(0, 1, .t 29)]⟩,
      ⟨some 31, none, .app ty_string 1 16 (.t 28) (.t 30)⟩,
      ⟨some 2, none, .mv (.t 31)⟩])
    (.ret)))))
theorem k_spec_l10Fields : chkF Tryz.prog Tryz.f50 32 c_spec_l10Fields [.t 2] = true := by kernel_rfl
theorem call_spec_l10Fields {args : List AV} {σ : List AB} {K : AV → List AB → Prop} (hn : args.length ≤ 32) (hw : wpC Tryz.prog σ.length 32 c_spec_l10Fields (retP σ.length [.t 2] K) ⟨initT 0 args, σ⟩) : CallWp Tryz.prog n_spec_l10Fields args σ K := call_fn mixed Tryz.func50 k_spec_l10Fields hn hw
def l0_spec_l10Num : LC := .seq (.seq (.ops [⟨some 13, none, .mv (.t 4)⟩,
      ⟨some 14, none, .mv (.t 0)⟩,
      ⟨some 15, none, .slen (.t 14)⟩,
      ⟨some 16, none, .bin .lss (.t 13) (.t 15)⟩])
    (.cond (.t 16) (.skip)
    (.exit 0)))
    (.seq (.block 1 (.seq (.seq (.ops [⟨some 19, none, .mv (.t 0)⟩,
      ⟨some 20, none, .mv (.t 4)⟩,
      ⟨some 21, none, .sidx (.t 19) (.t 20)⟩,
      ⟨some 22, none, .bin .lss (.t 21) (.k (.i .u8 48))⟩,
      ⟨some 23, none, .mv (.t 22)⟩,
      ⟨some 24, (some (23, false)), .mv (.t 0)⟩,
      ⟨some 25, (some (23, false)), .mv (.t 4)⟩,
      ⟨some 26, (some (23, false)), .sidx (.t 24) (.t 25)⟩,
      ⟨some 27, (some (23, false)), .bin .gtr (.t 26) (.k (.i .u8 57))⟩,
      ⟨some 28, none, .pick (.t 23) (.k (.b true)) (.t 27)⟩])
    (.cond (.t 28) (.seq (.ops [⟨some 2, none, .mv (.k (.i .i64 (-1)))⟩])
    (.ret))
    (.skip)))
    (.ops [⟨some 29, none, .mv (.t 3)⟩,
      ⟨some 30, none, .bin .mul (.t 29) (.k (.i .i64 10))⟩,
      ⟨some 31, none, .mv (.t 0)⟩,
      ⟨some 32, none, .mv (.t 4)⟩,
      ⟨some 33, none, .sidx (.t 31) (.t 32)⟩,
      ⟨some 34, none, .bin .sub (.t 33) (.k (.i .u8 48))⟩,
      ⟨some 35, none, .conv .i64 (.t 34)⟩,
      ⟨some 36, none, .bin .add (.t 30) (.t 35)⟩,
      ⟨some 3, none, .mv (.t 36)⟩])))
    (.ops [⟨some 17, none, .mv (.t 4)⟩,
      ⟨some 18, none, .bin .add (.t 17) (.k (.i .i64 1))⟩,
      ⟨some 4, none, .mv (.t 18)⟩]))
def c_spec_l10Num : LC := .seq (.ops [⟨some 2, none, .mv (.k (.i .i64 0))⟩])
    (.seq (.seq (.ops [⟨some 5, none, .mv (.t 0)⟩,
      ⟨some 6, none, .slen (.t 5)⟩,
      ⟨some 7, none, .bin .eql (.t 6) (.k (.i .i64 0))⟩,
      ⟨some 8, none, .mv (.t 7)⟩,
      ⟨some 9, (some (8, false)), .mv (.t 0)⟩,
      ⟨some 10, (some (8, false)), .slen (.t 9)⟩,
      ⟨some 11, (some (8, false)), .bin .gtr (.t 10) (.k (.i .i64 2))⟩,
      ⟨some 12, none, .pick (.t 8) (.k (.b true)) (.t 11)⟩])
    (.cond (.t 12) (.seq (.ops [⟨some 2, none, .mv (.k (.i .i64 (-1)))⟩])
    (.ret))
    (.skip)))
    (.seq (.ops [⟨some 3, none, .mv (.k (.i .i64 0))⟩])
    (.seq (.seq (.ops [⟨some 4, none, .mv (.k (.i .i64 0))⟩])
    (.block 0 (.loop l0_spec_l10Num)))
    (.seq (.seq (.ops [⟨some 37, none, .mv (.t 3)⟩,
      ⟨some 38, none, .call (.k (.fn n_spec_l10Plain [] [])) [.t 37]⟩,
      ⟨some 39, none, .mv (.t 0)⟩,
      ⟨some 40, none, .scmp true (.t 38) (.t 39)⟩])
    (.cond (.t 40) (.seq (.ops [⟨some 2, none, .mv (.k (.i .i64 (-1)))⟩])
    (.ret))
    (.skip)))
    (.seq (.ops [⟨some 41, none, .mv (.t 3)⟩,
      ⟨some 2, none, .mv (.t 41)⟩])
    (.ret))))))
theorem k_spec_l10Num : chkF Tryz.prog Tryz.f51 42 c_spec_l10Num [.t 2] = true := by kernel_rfl
theorem call_spec_l10Num {args : List AV} {σ : List AB} {K : AV → List AB → Prop} (hn : args.length ≤ 42) (hw : wpC Tryz.prog σ.length 42 c_spec_l10Num (retP σ.length [.t 2] K) ⟨initT 0 args, σ⟩) : CallWp Tryz.prog n_spec_l10Num args σ K := call_fn mixed Tryz.func51 k_spec_l10Num hn hw
def l0_spec_SetValid : LC := .seq (.seq (.ops [⟨some 4, none, .mv (.t 3)⟩,
      ⟨some 5, none, .mv (.t 0)⟩,
      ⟨some 6, none, .len (.t 5)⟩,
      ⟨some 7, none, .bin .lss (.t 4) (.t 6)⟩])
    (.cond (.t 7) (.skip)
    (.exit 0)))
    (.seq (.block 1 (.seq (.ops [⟨some 10, none, .mv (.t 0)⟩,
      ⟨some 11, none, .mv (.t 3)⟩,
      ⟨some 12, none, .ia 3 (.t 10) (.t 11)⟩,
      ⟨some 13, none, .ldn 3 (.t 12)⟩,
      ⟨some 14, none, .call (.k (.fn n_spec_TaskValid [] [])) [.t 13]⟩,
      ⟨some 15, none, .not (.t 14)⟩])
    (.cond (.t 15) (.seq (.ops [⟨some 2, none, .mv (.k (.b false))⟩])
    (.ret))
    (.skip))))
    (.ops [⟨some 8, none, .mv (.t 3)⟩,
      ⟨some 9, none, .bin .add (.t 8) (.k (.i .i64 1))⟩,
      ⟨some 3, none, .mv (.t 9)⟩]))
def c_spec_SetValid : LC := .seq (.ops [⟨some 2, none, .mv (.k (.b false))⟩])
    (.seq (.seq (.ops [⟨some 3, none, .mv (.k (.i .i64 0))⟩])
    (.block 0 (.loop l0_spec_SetValid)))
    (.seq (.ops [⟨some 16, none, .mv (.t 0)⟩,
      ⟨some 17, none, .len (.t 16)⟩,
      ⟨some 18, none, .bin .leq (.t 17) (.k (.i .i64 5))⟩,
      ⟨some 2, none, .mv (.t 18)⟩])
    (.ret)))
theorem k_spec_SetValid : chkF Tryz.prog Tryz.f52 19 c_spec_SetValid [.t 2] = true := by kernel_rfl
theorem call_spec_SetValid {args : List AV} {σ : List AB} {K : AV → List AB → Prop} (hn : args.length ≤ 19) (hw : wpC Tryz.prog σ.length 19 c_spec_SetValid (retP σ.length [.t 2] K) ⟨initT 0 args, σ⟩) : CallWp Tryz.prog n_spec_SetValid args σ K := call_fn mixed Tryz.func52 k_spec_SetValid hn hw
def l0_spec_l1Hyper : LC := .seq (.seq (.ops [⟨some 5, none, .mv (.t 4)⟩,
      ⟨some 6, none, .mv (.t 0)⟩,
      ⟨some 7, none, .len (.t 6)⟩,
      ⟨some 8, none, .bin .lss (.t 5) (.t 7)⟩])
    (.cond (.t 8) (.skip)
    (.exit 0)))
    (.seq (.block 1 (.draw 15 [⟨some 11, none, .mv (.t 3)⟩,
      ⟨some 12, none, .mv (.t 3)⟩,
      ⟨some 13, none, .mv (.t 0)⟩,
      ⟨some 14, none, .mv (.t 4)⟩,
      ⟨some 15, none, .ia 3 (.t 13) (.t 14)⟩,
      ⟨some 16, none, .fa 2 (.t 15)⟩,
      ⟨some 17, none, .ld (.t 16)⟩,
      ⟨some 18, none, .call (.k (.fn n_spec_l1Gcd [] [])) [.t 12, .t 17]⟩,
      ⟨some 19, none, .bin .quo (.t 11) (.t 18)⟩,
      ⟨some 20, none, .mv (.t 0)⟩,
      ⟨some 21, none, .mv (.t 4)⟩,
      ⟨some 22, none, .ia 3 (.t 20) (.t 21)⟩,
      ⟨some 23, none, .fa 2 (.t 22)⟩,
      ⟨some 24, none, .ld (.t 23)⟩,
      ⟨some 25, none, .bin .mul (.t 19) (.t 24)⟩,
      ⟨some 3, none, .mv (.t 25)⟩]))
    (.ops [⟨some 9, none, .mv (.t 4)⟩,
      ⟨some 10, none, .bin .add (.t 9) (.k (.i .i64 1))⟩,
      ⟨some 4, none, .mv (.t 10)⟩]))
def c_spec_l1Hyper : LC := .seq (.ops [⟨some 2, none, .mv (.k (.i .i64 0))⟩])
    (.seq (.ops [⟨some 3, none, .mv (.k (.i .i64 1))⟩])
    (.seq (.seq (.ops [⟨some 4, none, .mv (.k (.i .i64 0))⟩])
    (.block 0 (.loop l0_spec_l1Hyper)))
    (.seq (.ops [⟨some 26, none, .mv (.t 3)⟩,
      ⟨some 2, none, .mv (.t 26)⟩])
    (.ret))))
theorem k_spec_l1Hyper : chkF Tryz.prog Tryz.f53 27 c_spec_l1Hyper [.t 2] = true := by kernel_rfl
theorem call_spec_l1Hyper {args : List AV} {σ : List AB} {K : AV → List AB → Prop} (hn : args.length ≤ 27) (hw : wpC Tryz.prog σ.length 27 c_spec_l1Hyper (retP σ.length [.t 2] K) ⟨initT 0 args, σ⟩) : CallWp Tryz.prog n_spec_l1Hyper args σ K := call_fn mixed Tryz.func53 k_spec_l1Hyper hn hw
def l0_spec_l1Gcd : LC := .seq (.seq (.ops [⟨some 6, none, .mv (.t 1)⟩,
      ⟨some 7, none, .bin .gtr (.t 6) (.k (.i .i64 0))⟩])
    (.cond (.t 7) (.skip)
    (.exit 0)))
    (.block 1 (.seq (.ops [⟨some 8, none, .mv (.t 0)⟩,
      ⟨some 9, none, .mv (.t 1)⟩,
      ⟨some 10, none, .bin .rem (.t 8) (.t 9)⟩,
      ⟨some 5, none, .mv (.t 10)⟩])
    (.seq (.ops [⟨some 11, none, .mv (.t 1)⟩,
      ⟨some 0, none, .mv (.t 11)⟩])
    (.ops [⟨some 12, none, .mv (.t 5)⟩,
      ⟨some 1, none, .mv (.t 12)⟩]))))
def c_spec_l1Gcd : LC := .seq (.ops [⟨some 4, none, .mv (.k (.i .i64 0))⟩])
    (.seq (.block 0 (.loop l0_spec_l1Gcd))
    (.seq (.ops [⟨some 13, none, .mv (.t 0)⟩,
      ⟨some 4, none, .mv (.t 13)⟩])
    (.ret)))
theorem k_spec_l1Gcd : chkF Tryz.prog Tryz.f54 14 c_spec_l1Gcd [.t 4] = true := by kernel_rfl
theorem call_spec_l1Gcd {args : List AV} {σ : List AB} {K : AV → List AB → Prop} (hn : args.length ≤ 14) (hw : wpC Tryz.prog σ.length 14 c_spec_l1Gcd (retP σ.length [.t 4] K) ⟨initT 0 args, σ⟩) : CallWp Tryz.prog n_spec_l1Gcd args σ K := call_fn mixed Tryz.func54 k_spec_l1Gcd hn hw
def l0_spec_l2Overload : LC := .seq (.seq (.ops [⟨some 6, none, .mv (.t 5)⟩,
      ⟨some 7, none, .mv (.t 1)⟩,
      ⟨some 8, none, .bin .leq (.t 6) (.t 7)⟩])
    (.cond (.t 8) (.skip)
    (.exit 0)))
    (.seq (.block 1 (.seq (.ops [⟨some 11, none, .mv (.t 0)⟩,
      ⟨some 12, none, .mv (.t 5)⟩,
      ⟨some 13, none, .call (.k (.fn n_spec_l2Demand [] [])) [.t 11, .t 12]⟩,
      ⟨some 14, none, .mv (.t 5)⟩,
      ⟨some 15, none, .bin .gtr (.t 13) (.t 14)⟩])
    (.cond (.t 15) (.seq (.ops [⟨some 16, none, .mv (.t 5)⟩,
      ⟨some 4, none, .mv (.t 16)⟩])
    (.ret))
    (.skip))))
    (.ops [⟨some 9, none, .mv (.t 5)⟩,
      ⟨some 10, none, .bin .add (.t 9) (.k (.i .i64 1))⟩,
      ⟨some 5, none, .mv (.t 10)⟩]))
def c_spec_l2Overload : LC := .seq (.ops [⟨some 4, none, .mv (.k (.i .i64 0))⟩])
    (.seq (.seq (.ops [⟨some 5, none, .mv (.k (.i .i64 1))⟩])
    (.block 0 (.loop l0_spec_l2Overload)))
    (.seq (.ops [⟨some 4, none, .mv (.k (.i .i64 (-1)))⟩])
    (.ret)))
theorem k_spec_l2Overload : chkF Tryz.prog Tryz.f55 17 c_spec_l2Overload [.t 4] = true := by kernel_rfl
theorem call_spec_l2Overload {args : List AV} {σ : List AB} {K : AV → List AB → Prop} (hn : args.length ≤ 17) (hw : wpC Tryz.prog σ.length 17 c_spec_l2Overload (retP σ.length [.t 4] K) ⟨initT 0 args, σ⟩) : CallWp Tryz.prog n_spec_l2Overload args σ K := call_fn mixed Tryz.func55 k_spec_l2Overload hn hw
def l0_spec_OrderValid : LC := .seq (.seq (.ops [⟨some 16, none, .mv (.t 5)⟩,
      ⟨some 17, none, .mv (.t 1)⟩,
      ⟨some 18, none, .len (.t 17)⟩,
      ⟨some 19, none, .bin .lss (.t 16) (.t 18)⟩])
    (.cond (.t 19) (.skip)
    (.exit 0)))
    (.seq (.block 1 (.seq (.draw 20 [⟨some 22, none, .mv (.t 1)⟩,
      ⟨some 23, none, .mv (.t 5)⟩,
      ⟨some 24, none, .ia 1 (.t 22) (.t 23)⟩,
      ⟨some 25, none, .ld (.t 24)⟩,
      ⟨some 26, none, .mv (.t 0)⟩,
      ⟨some 27, none, .len (.t 26)⟩,
      ⟨some 28, none, .bin .sub (.t 27) (.k (.i .i64 1))⟩,
      ⟨some 29, none, .call (.k (.fn n_spec_l1In [] [])) [.t 25, .k (.i .i64 0), .t 28]⟩,
      ⟨some 30, none, .not (.t 29)⟩,
      ⟨some 31, none, .mv (.t 30)⟩,
      ⟨some 32, (some (31, false)), .mv (.t 1)⟩,
      ⟨some 33, (some (31, false)), .mv (.t 5)⟩,
      ⟨some 34, (some (31, false)), .slc 1 (.t 32) none (some (.t 33)) none⟩,
      ⟨some 35, (some (31, false)), .mv (.t 1)⟩,
      ⟨some 36, (some (31, false)), .mv (.t 5)⟩,
      ⟨some 37, (some (31, false)), .ia 1 (.t 35) (.t 36)⟩,
      ⟨some 38, (some (31, false)), .ld (.t 37)⟩,
      ⟨some 39, (some (31, false)), .call (.k (.fn n_spec_l4Index [] [])) [.t 34, .t 38]⟩,
      ⟨some 40, (some (31, false)), .bin .geq (.t 39) (.k (.i .i64 0))⟩,
      ⟨some 41, none, .pick (.t 31) (.k (.b true)) (.t 40)⟩])
    (.cond (.t 41) (.seq (.ops [⟨some 4, none, .mv (.k (.b false))⟩])
    (.ret))
    (.skip))))
    (.ops [⟨some 20, none, .mv (.t 5)⟩,
      ⟨some 21, none, .bin .add (.t 20) (.k (.i .i64 1))⟩,
      ⟨some 5, none, .mv (.t 21)⟩]))
def c_spec_OrderValid : LC := .seq (.ops [⟨some 4, none, .mv (.k (.b false))⟩])
    (.seq (.seq (.ops [⟨some 6, none, .mv (.t 0)⟩,
      ⟨some 7, none, .call (.k (.fn n_spec_SetValid [] [])) [.t 6]⟩,
      ⟨some 8, none, .not (.t 7)⟩,
      ⟨some 9, none, .mv (.t 8)⟩,
      ⟨some 10, (some (9, false)), .mv (.t 1)⟩,
      ⟨some 11, (some (9, false)), .len (.t 10)⟩,
      ⟨some 12, (some (9, false)), .mv (.t 0)⟩,
      ⟨some 13, (some (9, false)), .len (.t 12)⟩,
      ⟨some 14, (some (9, false)), .bin .neq (.t 11) (.t 13)⟩,
      ⟨some 15, none, .pick (.t 9) (.k (.b true)) (.t 14)⟩])
    (.cond (.t 15) (.seq (.ops [⟨some 4, none, .mv (.k (.b false))⟩])
    (.ret))
    (.skip)))
    (.seq (.seq (.ops [⟨some 5, none, .mv (.k (.i .i64 0))⟩])
    (.block 0 (.loop l0_spec_OrderValid)))
    (.seq (.ops [⟨some 4, none, .mv (.k (.b true))⟩])
    (.ret))))
theorem k_spec_OrderValid : chkF Tryz.prog Tryz.f56 42 c_spec_OrderValid [.t 4] = true := by kernel_rfl
theorem call_spec_OrderValid {args : List AV} {σ : List AB} {K : AV → List AB → Prop} (hn : args.length ≤ 42) (hw : wpC Tryz.prog σ.length 42 c_spec_OrderValid (retP σ.length [.t 4] K) ⟨initT 0 args, σ⟩) : CallWp Tryz.prog n_spec_OrderValid args σ K := call_fn mixed Tryz.func56 k_spec_OrderValid hn hw
def l0_spec_l4Response : LC := .seq (.seq (.ops [⟨some 28, none, .mv (.t 9)⟩,
      ⟨some 29, none, .mv (.t 1)⟩,
      ⟨some 30, none, .len (.t 29)⟩,
      ⟨some 31, none, .bin .lss (.t 28) (.t 30)⟩])
    (.cond (.t 31) (.skip)
    (.exit 2)))
    (.seq (.block 3 (.seq (.ops [⟨some 34, none, .mv (.t 0)⟩,
      ⟨some 35, none, .mv (.t 1)⟩,
      ⟨some 36, none, .mv (.t 9)⟩,
      ⟨some 37, none, .ia 1 (.t 35) (.t 36)⟩,
      ⟨some 38, none, .ld (.t 37)⟩,
      ⟨some 39, none, .ia 3 (.t 34) (.t 38)⟩,
      ⟨some 40, none, .ldn 3 (.t 39)⟩,
      ⟨some 10, none, .alloc ty_impl_Task [.i .i64 0, .i .i64 0, .i .i64 0]⟩,
      ⟨none, none, .st 3 (.t 10) (.t 40)⟩])
    (.draw 13 [⟨some 41, none, .mv (.t 8)⟩,
      ⟨some 42, none, .mv (.t 7)⟩,
      ⟨some 43, none, .fa 2 (.t 10)⟩,
      ⟨some 44, none, .ld (.t 43)⟩,
      ⟨some 45, none, .bin .add (.t 42) (.t 44)⟩,
      ⟨some 46, none, .bin .sub (.t 45) (.k (.i .i64 1))⟩,
      ⟨some 47, none, .fa 2 (.t 10)⟩,
      ⟨some 48, none, .ld (.t 47)⟩,
      ⟨some 49, none, .bin .quo (.t 46) (.t 48)⟩,
      ⟨some 50, none, .fa 0 (.t 10)⟩,
      ⟨some 51, none, .ld (.t 50)⟩,
      ⟨some 52, none, .bin .mul (.t 49) (.t 51)⟩,
      ⟨some 53, none, .bin .add (.t 41) (.t 52)⟩,
      ⟨some 8, none, .mv (.t 53)⟩])))
    (.ops [⟨some 32, none, .mv (.t 9)⟩,
      ⟨some 33, none, .bin .add (.t 32) (.k (.i .i64 1))⟩,
      ⟨some 9, none, .mv (.t 33)⟩]))
def l1_spec_l4Response : LC := .seq (.seq (.ops [⟨some 16, none, .mv (.t 7)⟩,
      ⟨some 17, none, .mv (.t 0)⟩,
      ⟨some 18, none, .mv (.t 2)⟩,
      ⟨some 19, none, .ia 3 (.t 17) (.t 18)⟩,
      ⟨some 20, none, .fa 1 (.t 19)⟩,
      ⟨some 21, none, .ld (.t 20)⟩,
      ⟨some 22, none, .bin .leq (.t 16) (.t 21)⟩])
    (.cond (.t 22) (.skip)
    (.exit 0)))
    (.block 1 (.seq (.ops [⟨some 23, none, .mv (.t 0)⟩,
      ⟨some 24, none, .mv (.t 2)⟩,
      ⟨some 25, none, .ia 3 (.t 23) (.t 24)⟩,
      ⟨some 26, none, .fa 0 (.t 25)⟩,
      ⟨some 27, none, .ld (.t 26)⟩,
      ⟨some 8, none, .mv (.t 27)⟩])
    (.seq (.seq (.ops [⟨some 9, none, .mv (.k (.i .i64 0))⟩])
    (.block 2 (.loop l0_spec_l4Response)))
    (.seq (.seq (.ops [⟨some 54, none, .mv (.t 8)⟩,
      ⟨some 55, none, .mv (.t 7)⟩,
      ⟨some 56, none, .bin .eql (.t 54) (.t 55)⟩])
    (.cond (.t 56) (.seq (.ops [⟨some 57, none, .mv (.t 7)⟩,
      ⟨some 6, none, .mv (.t 57)⟩])
    (.ret))
    (.skip)))
    (.ops [⟨some 58, none, .mv (.t 8)⟩,
      ⟨some 7, none, .mv (.t 58)⟩])))))
def c_spec_l4Response : LC := .seq (.ops [⟨some 6, none, .mv (.k (.i .i64 0))⟩])
    (.seq (.ops [⟨some 11, none, .mv (.t 0)⟩,
      ⟨some 12, none, .mv (.t 2)⟩,
      ⟨some 13, none, .ia 3 (.t 11) (.t 12)⟩,
      ⟨some 14, none, .fa 0 (.t 13)⟩,
      ⟨some 15, none, .ld (.t 14)⟩,
      ⟨some 7, none, .mv (.t 15)⟩])
    (.seq (.block 0 (.loop l1_spec_l4Response))
    (.seq (.ops [⟨some 6, none, .mv (.k (.i .i64 (-1)))⟩])
    (.ret))))
theorem k_spec_l4Response : chkF Tryz.prog Tryz.f57 59 c_spec_l4Response [.t 6] = true := by kernel_rfl
theorem call_spec_l4Response {args : List AV} {σ : List AB} {K : AV → List AB → Prop} (hn : args.length ≤ 59) (hw : wpC Tryz.prog σ.length 59 c_spec_l4Response (retP σ.length [.t 6] K) ⟨initT 0 args, σ⟩) : CallWp Tryz.prog n_spec_l4Response args σ K := call_fn mixed Tryz.func57 k_spec_l4Response hn hw
def l0_spec_l7Search : LC := .seq (.seq (.ops [⟨some 33, none, .mv (.t 11)⟩,
      ⟨some 34, none, .mv (.t 1)⟩,
      ⟨some 35, none, .mv (.t 9)⟩,
      ⟨some 36, none, .bin .add (.t 35) (.k (.i .i64 1))⟩,
      ⟨some 37, none, .mn (.t 34) (.t 36)⟩,
      ⟨some 38, none, .bin .lss (.t 33) (.t 37)⟩])
    (.cond (.t 38) (.skip)
    (.exit 2)))
    (.seq (.block 3 (.join (.join (.plan [0, 1, 2, 4, 5, 6, 7] [⟨some 41, none, .mv (.t 0)⟩,
      ⟨some 42, none, .mv (.t 2)⟩,
      ⟨some 43, none, .mv (.t 11)⟩,
      ⟨some 45, none, .mv (.t 0)⟩,
      ⟨some 46, none, .mv (.t 8)⟩,
      ⟨some 47, none, .ia 3 (.t 45) (.t 46)⟩,
      ⟨some 48, none, .ldn 3 (.t 47)⟩]
      (.alt (.one 3 ⟨some 44, none, .call (.k (.fn n_spec_l7On [] [])) [.t 41, .t 42, .t 43]⟩ [(48, some 3, 47)] []
        []
      (.one 8 ⟨some 49, none, .bsl ty_impl_Task [.i .i64 0, .i .i64 0, .i .i64 0] 1 [(0, 3, .t 48)]⟩ [] []
        []
      (.one 9 ⟨some 50, none, .app ty_impl_Task 3 24 (.t 44) (.t 49)⟩ [(48, some 3, 47)] []
        []
      (.one 10 ⟨some 51, none, .call (.k (.fn n_spec_l2Edf [] [])) [.t 50]⟩ [(48, some 3, 47)] [11]
        [⟨some 52, none, .not (.t 51)⟩]
      .fin)))) (.one 8 ⟨some 49, none, .bsl ty_impl_Task [.i .i64 0, .i .i64 0, .i .i64 0] 1 [(0, 3, .t 48)]⟩ [] []
        []
      (.one 3 ⟨some 44, none, .call (.k (.fn n_spec_l7On [] [])) [.t 41, .t 42, .t 43]⟩ [(48, some 3, 47)] []
        []
      (.one 9 ⟨some 50, none, .app ty_impl_Task 3 24 (.t 44) (.t 49)⟩ [(48, some 3, 47)] []
        []
      (.one 10 ⟨some 51, none, .call (.k (.fn n_spec_l2Edf [] [])) [.t 50]⟩ [(48, some 3, 47)] [11]
        [⟨some 52, none, .not (.t 51)⟩]
      .fin))))))
    (.cond (.t 52) (.exit 3)
    (.skip)))
    (.seq (.ops [⟨some 54, none, .mv (.t 0)⟩,
      ⟨some 55, none, .mv (.t 1)⟩,
      ⟨some 56, none, .bsl ty_int [.i .i64 0] 0 []⟩,
      ⟨some 57, none, .mv (.t 2)⟩,
      ⟨some 58, none, .app ty_int 1 8 (.t 56) (.t 57)⟩,
      ⟨some 59, none, .mv (.t 11)⟩,
      ⟨some 60, none, .bsl ty_int [.i .i64 0] 1 [(0, 1, .t 59)]⟩,
      ⟨some 61, none, .app ty_int 1 8 (.t 58) (.t 60)⟩,
      ⟨some 62, none, .call (.k (.fn n_spec_l7Search [] [])) [.t 54, .t 55, .t 61]⟩,
      ⟨some 53, none, .mv (.t 62)⟩,
      ⟨some 63, none, .ext 0 (.t 53)⟩,
      ⟨some 64, none, .ext 1 (.t 53)⟩,
      ⟨some 12, none, .mv (.t 63)⟩,
      ⟨some 13, none, .mv (.t 64)⟩])
    (.seq (.ops [⟨some 65, none, .mv (.t 13)⟩])
    (.cond (.t 65) (.seq (.ops [⟨some 66, none, .mv (.t 12)⟩,
      ⟨some 6, none, .mv (.t 66)⟩,
      ⟨some 7, none, .mv (.k (.b true))⟩])
    (.ret))
    (.skip))))))
    (.ops [⟨some 39, none, .mv (.t 11)⟩,
      ⟨some 40, none, .bin .add (.t 39) (.k (.i .i64 1))⟩,
      ⟨some 11, none, .mv (.t 40)⟩]))
def l1_spec_l7Search : LC := .seq (.seq (.ops [⟨some 21, none, .mv (.t 10)⟩,
      ⟨some 22, none, .mv (.t 8)⟩,
      ⟨some 23, none, .bin .lss (.t 21) (.t 22)⟩])
    (.cond (.t 23) (.skip)
    (.exit 0)))
    (.seq (.block 1 (.ops [⟨some 26, none, .mv (.t 9)⟩,
      ⟨some 27, none, .mv (.t 2)⟩,
      ⟨some 28, none, .mv (.t 10)⟩,
      ⟨some 29, none, .ia 1 (.t 27) (.t 28)⟩,
      ⟨some 30, none, .ld (.t 29)⟩,
      ⟨some 31, none, .bin .add (.t 30) (.k (.i .i64 1))⟩,
      ⟨some 32, none, .mx (.t 26) (.t 31)⟩,
      ⟨some 9, none, .mv (.t 32)⟩]))
    (.ops [⟨some 24, none, .mv (.t 10)⟩,
      ⟨some 25, none, .bin .add (.t 24) (.k (.i .i64 1))⟩,
      ⟨some 10, none, .mv (.t 25)⟩]))
def c_spec_l7Search : LC := .seq (.ops [⟨some 6, none, .mv (.k (.sn))⟩,
      ⟨some 7, none, .mv (.k (.b false))⟩])
    (.seq (.ops [⟨some 14, none, .mv (.t 2)⟩,
      ⟨some 15, none, .len (.t 14)⟩,
      ⟨some 8, none, .mv (.t 15)⟩])
    (.seq (.seq (.ops [⟨some 16, none, .mv (.t 8)⟩,
      ⟨some 17, none, .mv (.t 0)⟩,
      ⟨some 18, none, .len (.t 17)⟩,
      ⟨some 19, none, .bin .eql (.t 16) (.t 18)⟩])
    (.cond (.t 19) (.seq (.ops [⟨some 20, none, .mv (.t 2)⟩,
      ⟨some 6, none, .mv (.t 20)⟩,
      ⟨some 7, none, .mv (.k (.b true))⟩])
    (.ret))
    (.skip)))
    (.seq (.ops [⟨some 9, none, .mv (.k (.i .i64 0))⟩])
    (.seq (.seq (.ops [⟨some 10, none, .mv (.k (.i .i64 0))⟩])
    (.block 0 (.loop l1_spec_l7Search)))
    (.seq (.seq (.ops [⟨some 11, none, .mv (.k (.i .i64 0))⟩])
    (.block 2 (.loop l0_spec_l7Search)))
    (.seq (.ops [⟨some 67, none, .bsl ty_int [.i .i64 0] 0 []⟩,
      ⟨some 6, none, .mv (.t 67)⟩,
      ⟨some 7, none, .mv (.k (.b false))⟩])
    (.ret)))))))
theorem k_spec_l7Search : chkF Tryz.prog Tryz.f58 68 c_spec_l7Search [.t 6, .t 7] = true := by kernel_rfl
theorem call_spec_l7Search {args : List AV} {σ : List AB} {K : AV → List AB → Prop} (hn : args.length ≤ 68) (hw : wpC Tryz.prog σ.length 68 c_spec_l7Search (retP σ.length [.t 6, .t 7] K) ⟨initT 0 args, σ⟩) : CallWp Tryz.prog n_spec_l7Search args σ K := call_fn mixed Tryz.func58 k_spec_l7Search hn hw
theorem callC_spec_l7Search {args : List AV} {σ : List AB} {K : AV → List AB → Prop} (hn : args.length ≤ 68) (hw : Closed σ → args.all (below1 σ.length) = true → wpC Tryz.prog σ.length 68 c_spec_l7Search (retP σ.length [.t 6, .t 7] K) ⟨initT 0 args, σ⟩) : CallWp Tryz.prog n_spec_l7Search args σ K := call_fnC mixed Tryz.func58 k_spec_l7Search hn hw
def c_impl_in : LC := .seq (.ops [⟨some 6, none, .mv (.k (.b false))⟩])
    (.seq (.ops [⟨some 7, none, .mv (.t 0)⟩,
      ⟨some 8, none, .mv (.t 1)⟩,
      ⟨some 9, none, .bin .geq (.t 7) (.t 8)⟩,
      ⟨some 10, none, .mv (.t 9)⟩,
      ⟨some 11, (some (10, true)), .mv (.t 0)⟩,
      ⟨some 12, (some (10, true)), .mv (.t 2)⟩,
      ⟨some 13, (some (10, true)), .bin .leq (.t 11) (.t 12)⟩,
      ⟨some 14, none, .pick (.t 10) (.t 13) (.k (.b false))⟩,
      ⟨some 6, none, .mv (.t 14)⟩])
    (.ret))
theorem k_impl_in : chkF Tryz.prog Tryz.f62 15 c_impl_in [.t 6] = true := by kernel_rfl
theorem call_impl_in {args : List AV} {σ : List AB} {K : AV → List AB → Prop} (hn : args.length ≤ 15) (hw : wpC Tryz.prog σ.length 15 c_impl_in (retP σ.length [.t 6] K) ⟨initT 0 args, σ⟩) : CallWp Tryz.prog n_impl_in args σ K := call_fn mixed Tryz.func62 k_impl_in hn hw
def c_slices_ContainsFunc_impl_Task : LC := .seq (.ops [⟨some 4, none, .mv (.k (.b false))⟩])
    (.seq (.ops [⟨some 5, none, .mv (.t 0)⟩,
      ⟨some 6, none, .mv (.t 1)⟩,
      ⟨some 7, none, .call (.k (.fn n_slices_IndexFunc_impl_Task [] [])) [.t 5, .t 6]⟩,
      ⟨some 8, none, .bin .geq (.t 7) (.k (.i .i64 0))⟩,
      ⟨some 4, none, .mv (.t 8)⟩])
    (.ret))
theorem k_slices_ContainsFunc_impl_Task : chkF Tryz.prog Tryz.f63 9 c_slices_ContainsFunc_impl_Task [.t 4] = true := by kernel_rfl
theorem call_slices_ContainsFunc_impl_Task {args : List AV} {σ : List AB} {K : AV → List AB → Prop} (hn : args.length ≤ 9) (hw : wpC Tryz.prog σ.length 9 c_slices_ContainsFunc_impl_Task (retP σ.length [.t 4] K) ⟨initT 0 args, σ⟩) : CallWp Tryz.prog n_slices_ContainsFunc_impl_Task args σ K := call_fn mixed Tryz.func63 k_slices_ContainsFunc_impl_Task hn hw
def c_impl_SetValid_1 : LC := .seq (.ops [⟨some 1, none, .box ty_impl_Task (.t 0)⟩,
      ⟨some 2, none, .mv (.k (.b false))⟩])
    (.seq (.ops [⟨some 3, none, .ldn 3 (.t 1)⟩,
      ⟨some 4, none, .call (.k (.fn n_impl_TaskValid [] [])) [.t 3]⟩,
      ⟨some 5, none, .not (.t 4)⟩,
      ⟨some 2, none, .mv (.t 5)⟩])
    (.ret))
theorem k_impl_SetValid_1 : chkF Tryz.prog Tryz.f64 6 c_impl_SetValid_1 [.t 2] = true := by kernel_rfl
theorem call_impl_SetValid_1 {args : List AV} {σ : List AB} {K : AV → List AB → Prop} (hn : args.length ≤ 6) (hw : wpC Tryz.prog σ.length 6 c_impl_SetValid_1 (retP σ.length [.t 2] K) ⟨initT 0 args, σ⟩) : CallWp Tryz.prog n_impl_SetValid_1 args σ K := call_fn mixed Tryz.func64 k_impl_SetValid_1 hn hw
def c_impl_isCores : LC := .seq (.ops [⟨some 2, none, .mv (.k (.b false))⟩])
    (.seq (.ops [⟨some 3, none, .mv (.t 0)⟩,
      ⟨some 4, none, .call (.k (.fn n_impl_in [] [])) [.t 3, .k (.i .i64 1), .k (.i .i64 5)]⟩,
      ⟨some 2, none, .mv (.t 4)⟩])
    (.ret))
theorem k_impl_isCores : chkF Tryz.prog Tryz.f65 5 c_impl_isCores [.t 2] = true := by kernel_rfl
theorem call_impl_isCores {args : List AV} {σ : List AB} {K : AV → List AB → Prop} (hn : args.length ≤ 5) (hw : wpC Tryz.prog σ.length 5 c_impl_isCores (retP σ.length [.t 2] K) ⟨initT 0 args, σ⟩) : CallWp Tryz.prog n_impl_isCores args σ K := call_fn mixed Tryz.func65 k_impl_isCores hn hw
def c_impl_none : LC := .seq (.ops [⟨some 2, none, .mv (.k (.sn))⟩])
    (.seq (.ops [⟨some 3, none, .bsl ty_int [.i .i64 0] 1 [(0, 1, .k (.i .i64 (-1)))]⟩,
      ⟨some 4, none, .mv (.t 0)⟩,
      ⟨some 5, none, .call (.k (.fn n_slices_Repeat_int [] [])) [.t 3, .t 4]⟩,
      ⟨some 2, none, .mv (.t 5)⟩])
    (.ret))
theorem k_impl_none : chkF Tryz.prog Tryz.f66 6 c_impl_none [.t 2] = true := by kernel_rfl
theorem call_impl_none {args : List AV} {σ : List AB} {K : AV → List AB → Prop} (hn : args.length ≤ 6) (hw : wpC Tryz.prog σ.length 6 c_impl_none (retP σ.length [.t 2] K) ⟨initT 0 args, σ⟩) : CallWp Tryz.prog n_impl_none args σ K := call_fn mixed Tryz.func66 k_impl_none hn hw
def l0_impl_search : LC := .seq (.ops [⟨some 21, none, .bin .lss (.t 20) (.t 19)⟩])
    (.seq (.cond (.t 21) (.skip)
    (.exit 0))
    (.seq (.block 1 (.seq (.ops [⟨some 22, none, .mv (.t 20)⟩,
      ⟨some 11, none, .mv (.t 22)⟩])
    (.seq (.ops [⟨some 23, none, .mv (.t 2)⟩,
      ⟨some 24, none, .mv (.t 3)⟩,
      ⟨some 25, none, .mv (.t 11)⟩,
      ⟨some 26, none, .ia 1 (.t 23) (.t 24)⟩,
      ⟨none, none, .st 1 (.t 26) (.t 25)⟩])
    (.seq (.ops [⟨some 27, none, .mv (.t 0)⟩,
      ⟨some 28, none, .mv (.t 2)⟩,
      ⟨some 29, none, .mv (.t 11)⟩,
      ⟨some 30, none, .call (.k (.fn n_impl_onCore [] [])) [.t 27, .t 28, .t 29]⟩,
      ⟨some 31, none, .call (.k (.fn n_impl_feasible [] [])) [.t 30]⟩,
      ⟨some 32, none, .mv (.t 31)⟩,
      ⟨some 33, (some (32, true)), .mv (.t 0)⟩,
      ⟨some 34, (some (32, true)), .mv (.t 1)⟩,
      ⟨some 35, (some (32, true)), .mv (.t 2)⟩,
      ⟨some 36, (some (32, true)), .mv (.t 3)⟩,
      ⟨some 37, (some (32, true)), .bin .add (.t 36) (.k (.i .i64 1))⟩,
      ⟨some 38, (some (32, true)), .mv (.t 4)⟩,
      ⟨some 39, (some (32, true)), .mv (.t 11)⟩,
      ⟨some 40, (some (32, true)), .bin .add (.t 39) (.k (.i .i64 1))⟩,
      ⟨some 41, (some (32, true)), .mx (.t 38) (.t 40)⟩,
      ⟨some 42, (some (32, true)), .call (.k (.fn n_impl_search [] [])) [.t 33, .t 34, .t 35, .t 37, .t 41]⟩,
      ⟨some 43, none, .pick (.t 32) (.t 42) (.k (.b false))⟩])
    (.cond (.t 43) (.seq (.ops [⟨some 10, none, .mv (.k (.b true))⟩])
    (.ret))
    (.skip))))))
    (.ops [⟨some 44, none, .bin .add (.t 20) (.k (.i .i64 1))⟩,
      ⟨some 20, none, .mv (.t 44)⟩])))
def c_impl_search : LC := .seq (.ops [⟨some 10, none, .mv (.k (.b false))⟩])
    (.seq (.seq (.ops [⟨some 12, none, .mv (.t 3)⟩,
      ⟨some 13, none, .mv (.t 0)⟩,
      ⟨some 14, none, .len (.t 13)⟩,
      ⟨some 15, none, .bin .eql (.t 12) (.t 14)⟩])
    (.cond (.t 15) (.seq (.ops [⟨some 10, none, .mv (.k (.b true))⟩])
    (.ret))
    (.skip)))
    (.seq (.seq (.ops [⟨some 16, none, .mv (.t 1)⟩,
      ⟨some 17, none, .mv (.t 4)⟩,
      ⟨some 18, none, .bin .add (.t 17) (.k (.i .i64 1))⟩,
      ⟨some 19, none, .mn (.t 16) (.t 18)⟩,
      ⟨some 20, none, .mv (.k (.i .i64 0))⟩])
    (.block 0 (.loop l0_impl_search)))
    (.seq (.ops [⟨some 45, none, .mv (.t 2)⟩,
      ⟨some 46, none, .mv (.t 3)⟩,
      ⟨some 47, none, .ia 1 (.t 45) (.t 46)⟩,
      ⟨none, none, .st 1 (.t 47) (.k (.i .i64 (-1)))⟩])
    (.seq (.ops [⟨some 10, none, .mv (.k (.b false))⟩])
    (.ret)))))
theorem k_impl_search : chkF Tryz.prog Tryz.f67 48 c_impl_search [.t 10] = true := by kernel_rfl
theorem call_impl_search {args : List AV} {σ : List AB} {K : AV → List AB → Prop} (hn : args.length ≤ 48) (hw : wpC Tryz.prog σ.length 48 c_impl_search (retP σ.length [.t 10] K) ⟨initT 0 args, σ⟩) : CallWp Tryz.prog n_impl_search args σ K := call_fn mixed Tryz.func67 k_impl_search hn hw
def c_spec_l1In : LC := .seq (.ops [⟨some 6, none, .mv (.k (.b false))⟩])
    (.seq (.ops [⟨some 7, none, .mv (.t 0)⟩,
      ⟨some 8, none, .mv (.t 1)⟩,
      ⟨some 9, none, .bin .geq (.t 7) (.t 8)⟩,
      ⟨some 10, none, .mv (.t 9)⟩,
      ⟨some 11, (some (10, true)), .mv (.t 0)⟩,
      ⟨some 12, (some (10, true)), .mv (.t 2)⟩,
      ⟨some 13, (some (10, true)), .bin .leq (.t 11) (.t 12)⟩,
      ⟨some 14, none, .pick (.t 10) (.t 13) (.k (.b false))⟩,
      ⟨some 6, none, .mv (.t 14)⟩])
    (.ret))
theorem k_spec_l1In : chkF Tryz.prog Tryz.f68 15 c_spec_l1In [.t 6] = true := by kernel_rfl
theorem call_spec_l1In {args : List AV} {σ : List AB} {K : AV → List AB → Prop} (hn : args.length ≤ 15) (hw : wpC Tryz.prog σ.length 15 c_spec_l1In (retP σ.length [.t 6] K) ⟨initT 0 args, σ⟩) : CallWp Tryz.prog n_spec_l1In args σ K := call_fn mixed Tryz.func68 k_spec_l1In hn hw
def l0_impl_gcd : LC := .seq (.seq (.ops [⟨some 5, none, .mv (.t 1)⟩,
      ⟨some 6, none, .bin .neq (.t 5) (.k (.i .i64 0))⟩])
    (.cond (.t 6) (.skip)
    (.exit 0)))
    (.block 1 (.plan [0, 1, 2, 3] [⟨some 7, none, .mv (.t 1)⟩,
      ⟨some 8, none, .mv (.t 0)⟩,
      ⟨some 9, none, .mv (.t 1)⟩,
      ⟨some 10, none, .bin .rem (.t 8) (.t 9)⟩]
      (.one 4 ⟨some 0, none, .mv (.t 7)⟩ [] []
        []
      (.one 5 ⟨some 1, none, .mv (.t 10)⟩ [] []
        []
      .fin))))
def c_impl_gcd : LC := .seq (.ops [⟨some 4, none, .mv (.k (.i .i64 0))⟩])
    (.seq (.block 0 (.loop l0_impl_gcd))
    (.seq (.ops [⟨some 11, none, .mv (.t 0)⟩,
      ⟨some 4, none, .mv (.t 11)⟩])
    (.ret)))
theorem k_impl_gcd : chkF Tryz.prog Tryz.f70 12 c_impl_gcd [.t 4] = true := by kernel_rfl
theorem call_impl_gcd {args : List AV} {σ : List AB} {K : AV → List AB → Prop} (hn : args.length ≤ 12) (hw : wpC Tryz.prog σ.length 12 c_impl_gcd (retP σ.length [.t 4] K) ⟨initT 0 args, σ⟩) : CallWp Tryz.prog n_impl_gcd args σ K := call_fn mixed Tryz.func70 k_impl_gcd hn hw
def c_impl_lcm : LC := .seq (.ops [⟨some 4, none, .mv (.k (.i .i64 0))⟩])
    (.seq (.ops [⟨some 5, none, .mv (.t 0)⟩,
      ⟨some 6, none, .mv (.t 0)⟩,
      ⟨some 7, none, .mv (.t 1)⟩,
      ⟨some 8, none, .call (.k (.fn n_impl_gcd [] [])) [.t 6, .t 7]⟩,
      ⟨some 9, none, .bin .quo (.t 5) (.t 8)⟩,
      ⟨some 10, none, .mv (.t 1)⟩,
      ⟨some 11, none, .bin .mul (.t 9) (.t 10)⟩,
      ⟨some 4, none, .mv (.t 11)⟩])
    (.ret))
theorem k_impl_lcm : chkF Tryz.prog Tryz.f71 12 c_impl_lcm [.t 4] = true := by kernel_rfl
theorem call_impl_lcm {args : List AV} {σ : List AB} {K : AV → List AB → Prop} (hn : args.length ≤ 12) (hw : wpC Tryz.prog σ.length 12 c_impl_lcm (retP σ.length [.t 4] K) ⟨initT 0 args, σ⟩) : CallWp Tryz.prog n_impl_lcm args σ K := call_fn mixed Tryz.func71 k_impl_lcm hn hw
def l0_slices_Index_int : LC := .seq (.ops [⟨some 9, none, .bin .lss (.t 8) (.t 7)⟩])
    (.seq (.cond (.t 9) (.skip)
    (.exit 0))
    (.seq (.block 1 (.seq (.ops [⟨some 10, none, .mv (.t 8)⟩,
      ⟨some 5, none, .mv (.t 10)⟩])
    (.seq (.ops [⟨some 11, none, .mv (.t 1)⟩,
      ⟨some 12, none, .mv (.t 0)⟩,
      ⟨some 13, none, .mv (.t 5)⟩,
      ⟨some 14, none, .ia 1 (.t 12) (.t 13)⟩,
      ⟨some 15, none, .ld (.t 14)⟩,
      ⟨some 16, none, .bin .eql (.t 11) (.t 15)⟩])
    (.cond (.t 16) (.seq (.ops [⟨some 17, none, .mv (.t 5)⟩,
      ⟨some 4, none, .mv (.t 17)⟩])
    (.ret))
    (.skip)))))
    (.ops [⟨some 18, none, .bin .add (.t 8) (.k (.i .i64 1))⟩,
      ⟨some 8, none, .mv (.t 18)⟩])))
def c_slices_Index_int : LC := .seq (.ops [⟨some 4, none, .mv (.k (.i .i64 0))⟩])
    (.seq (.seq (.ops [⟨some 6, none, .mv (.t 0)⟩,
      ⟨some 7, none, .len (.t 6)⟩,
      ⟨some 8, none, .mv (.k (.i .i64 0))⟩])
    (.block 0 (.loop l0_slices_Index_int)))
    (.seq (.ops [⟨some 4, none, .mv (.k (.i .i64 (-1)))⟩])
    (.ret)))
theorem k_slices_Index_int : chkF Tryz.prog Tryz.f72 19 c_slices_Index_int [.t 4] = true := by kernel_rfl
theorem call_slices_Index_int {args : List AV} {σ : List AB} {K : AV → List AB → Prop} (hn : args.length ≤ 19) (hw : wpC Tryz.prog σ.length 19 c_slices_Index_int (retP σ.length [.t 4] K) ⟨initT 0 args, σ⟩) : CallWp Tryz.prog n_slices_Index_int args σ K := call_fn mixed Tryz.func72 k_slices_Index_int hn hw
def l0_impl_response : LC := .seq (.ops [⟨some 38, none, .bin .lss (.t 37) (.t 36)⟩])
    (.seq (.cond (.t 38) (.skip)
    (.exit 2))
    (.seq (.block 3 (.seq (.ops [⟨some 39, none, .ia 1 (.t 35) (.t 37)⟩,
      ⟨some 40, none, .ld (.t 39)⟩,
      ⟨some 12, none, .mv (.t 40)⟩])
    (.draw 20 [⟨some 41, none, .mv (.t 10)⟩,
      ⟨some 42, none, .mv (.t 9)⟩,
      ⟨some 43, none, .mv (.t 1)⟩,
      ⟨some 44, none, .mv (.t 12)⟩,
      ⟨some 45, none, .ia 1 (.t 43) (.t 44)⟩,
      ⟨some 46, none, .ld (.t 45)⟩,
      ⟨some 47, none, .bin .add (.t 42) (.t 46)⟩,
      ⟨some 48, none, .mv (.t 0)⟩,
      ⟨some 49, none, .mv (.t 12)⟩,
      ⟨some 50, none, .ia 3 (.t 48) (.t 49)⟩,
      ⟨some 51, none, .fa 2 (.t 50)⟩,
      ⟨some 52, none, .ld (.t 51)⟩,
      ⟨some 53, none, .call (.k (.fn n_impl_ceil [] [])) [.t 47, .t 52]⟩,
      ⟨some 54, none, .mv (.t 0)⟩,
      ⟨some 55, none, .mv (.t 12)⟩,
      ⟨some 56, none, .ia 3 (.t 54) (.t 55)⟩,
      ⟨some 57, none, .fa 0 (.t 56)⟩,
      ⟨some 58, none, .ld (.t 57)⟩,
      ⟨some 59, none, .bin .mul (.t 53) (.t 58)⟩,
      ⟨some 60, none, .bin .add (.t 41) (.t 59)⟩,
      ⟨some 10, none, .mv (.t 60)⟩])))
    (.ops [⟨some 61, none, .bin .add (.t 37) (.k (.i .i64 1))⟩,
      ⟨some 37, none, .mv (.t 61)⟩])))
def l1_impl_response : LC := .seq (.seq (.draw 12 [⟨some 18, none, .mv (.t 9)⟩,
      ⟨some 19, none, .mv (.t 1)⟩,
      ⟨some 20, none, .mv (.t 2)⟩,
      ⟨some 21, none, .ia 1 (.t 19) (.t 20)⟩,
      ⟨some 22, none, .ld (.t 21)⟩,
      ⟨some 23, none, .bin .add (.t 18) (.t 22)⟩,
      ⟨some 24, none, .mv (.t 0)⟩,
      ⟨some 25, none, .mv (.t 2)⟩,
      ⟨some 26, none, .ia 3 (.t 24) (.t 25)⟩,
      ⟨some 27, none, .fa 1 (.t 26)⟩,
      ⟨some 28, none, .ld (.t 27)⟩,
      ⟨some 29, none, .bin .leq (.t 23) (.t 28)⟩])
    (.cond (.t 29) (.skip)
    (.exit 0)))
    (.block 1 (.seq (.ops [⟨some 30, none, .mv (.t 0)⟩,
      ⟨some 31, none, .mv (.t 2)⟩,
      ⟨some 32, none, .ia 3 (.t 30) (.t 31)⟩,
      ⟨some 33, none, .fa 0 (.t 32)⟩,
      ⟨some 34, none, .ld (.t 33)⟩,
      ⟨some 10, none, .mv (.t 34)⟩])
    (.seq (.seq (.ops [⟨some 35, none, .mv (.t 3)⟩,
      ⟨some 36, none, .len (.t 35)⟩,
      ⟨some 37, none, .mv (.k (.i .i64 0))⟩])
    (.block 2 (.loop l0_impl_response)))
    (.seq (.seq (.ops [⟨some 62, none, .mv (.t 10)⟩,
      ⟨some 63, none, .mv (.t 9)⟩,
      ⟨some 64, none, .bin .eql (.t 62) (.t 63)⟩])
    (.cond (.t 64) (.seq (.ops [⟨some 65, none, .mv (.t 9)⟩,
      ⟨some 66, none, .mv (.t 1)⟩,
      ⟨some 67, none, .mv (.t 2)⟩,
      ⟨some 68, none, .ia 1 (.t 66) (.t 67)⟩,
      ⟨some 69, none, .ld (.t 68)⟩,
      ⟨some 70, none, .bin .add (.t 65) (.t 69)⟩,
      ⟨some 8, none, .mv (.t 70)⟩])
    (.ret))
    (.skip)))
    (.ops [⟨some 71, none, .mv (.t 10)⟩,
      ⟨some 9, none, .mv (.t 71)⟩])))))
def c_impl_response : LC := .seq (.ops [⟨some 8, none, .mv (.k (.i .i64 0))⟩])
    (.seq (.seq (.ops [⟨some 13, none, .mv (.t 0)⟩,
      ⟨some 14, none, .mv (.t 2)⟩,
      ⟨some 15, none, .ia 3 (.t 13) (.t 14)⟩,
      ⟨some 16, none, .fa 0 (.t 15)⟩,
      ⟨some 17, none, .ld (.t 16)⟩,
      ⟨some 9, none, .mv (.t 17)⟩])
    (.block 0 (.loop l1_impl_response)))
    (.seq (.ops [⟨some 8, none, .mv (.k (.i .i64 (-1)))⟩])
    (.ret)))
theorem k_impl_response : chkF Tryz.prog Tryz.f73 72 c_impl_response [.t 8] = true := by kernel_rfl
theorem call_impl_response {args : List AV} {σ : List AB} {K : AV → List AB → Prop} (hn : args.length ≤ 72) (hw : wpC Tryz.prog σ.length 72 c_impl_response (retP σ.length [.t 8] K) ⟨initT 0 args, σ⟩) : CallWp Tryz.prog n_impl_response args σ K := call_fn mixed Tryz.func73 k_impl_response hn hw
def l0_slices_stableCmpFunc_int : LC := .seq (.seq (.ops [⟨some 33, none, .mv (.t 8)⟩,
      ⟨some 34, none, .mv (.t 1)⟩,
      ⟨some 35, none, .bin .leq (.t 33) (.t 34)⟩])
    (.cond (.t 35) (.skip)
    (.exit 4)))
    (.block 5 (.seq (.ops [⟨some 36, none, .mv (.t 0)⟩,
      ⟨some 37, none, .mv (.t 7)⟩,
      ⟨some 38, none, .mv (.t 7)⟩,
      ⟨some 39, none, .mv (.t 6)⟩,
      ⟨some 40, none, .bin .add (.t 38) (.t 39)⟩,
      ⟨some 41, none, .mv (.t 8)⟩,
      ⟨some 42, none, .mv (.t 2)⟩,
      ⟨some 43, none, .call (.k (.fn n_slices_symMergeCmpFunc_int [] [])) [.t 36, .t 37, .t 40, .t 41, .t 42]⟩])
    (.seq (.ops [⟨some 44, none, .mv (.t 8)⟩,
      ⟨some 7, none, .mv (.t 44)⟩])
    (.ops [⟨some 45, none, .mv (.t 8)⟩,
      ⟨some 46, none, .mv (.t 6)⟩,
      ⟨some 47, none, .bin .mul (.k (.i .i64 2)) (.t 46)⟩,
      ⟨some 48, none, .bin .add (.t 45) (.t 47)⟩,
      ⟨some 8, none, .mv (.t 48)⟩]))))
def l1_slices_stableCmpFunc_int : LC := .seq (.seq (.ops [⟨some 28, none, .mv (.t 6)⟩,
      ⟨some 29, none, .mv (.t 1)⟩,
      ⟨some 30, none, .bin .lss (.t 28) (.t 29)⟩])
    (.cond (.t 30) (.skip)
    (.exit 2)))
    (.block 3 (.seq (.ops [⟨some 31, none, .mv (.t 6)⟩,
      ⟨some 32, none, .bin .mul (.k (.i .i64 2)) (.t 31)⟩,
      ⟨some 7, none, .mv (.k (.i .i64 0))⟩,
      ⟨some 8, none, .mv (.t 32)⟩])
    (.seq (.block 4 (.loop l0_slices_stableCmpFunc_int))
    (.seq (.seq (.ops [⟨some 49, none, .mv (.t 7)⟩,
      ⟨some 50, none, .mv (.t 6)⟩,
      ⟨some 51, none, .bin .add (.t 49) (.t 50)⟩,
      ⟨some 9, none, .mv (.t 51)⟩])
    (.seq (.ops [⟨some 52, none, .mv (.t 9)⟩,
      ⟨some 53, none, .mv (.t 1)⟩,
      ⟨some 54, none, .bin .lss (.t 52) (.t 53)⟩])
    (.cond (.t 54) (.ops [⟨some 55, none, .mv (.t 0)⟩,
      ⟨some 56, none, .mv (.t 7)⟩,
      ⟨some 57, none, .mv (.t 9)⟩,
      ⟨some 58, none, .mv (.t 1)⟩,
      ⟨some 59, none, .mv (.t 2)⟩,
      ⟨some 60, none, .call (.k (.fn n_slices_symMergeCmpFunc_int [] [])) [.t 55, .t 56, .t 57, .t 58, .t 59]⟩])
    (.skip))))
    (.ops [⟨some 61, none, .mv (.t 6)⟩,
      ⟨some 62, none, .bin .mul (.t 61) (.k (.i .i64 2))⟩,
      ⟨some 6, none, .mv (.t 62)⟩])))))
def l2_slices_stableCmpFunc_int : LC := .seq (.seq (.ops [⟨some 11, none, .mv (.t 8)⟩,
      ⟨some 12, none, .mv (.t 1)⟩,
      ⟨some 13, none, .bin .leq (.t 11) (.t 12)⟩])
    (.cond (.t 13) (.skip)
    (.exit 0)))
    (.block 1 (.seq (.ops [⟨some 14, none, .mv (.t 0)⟩,
      ⟨some 15, none, .mv (.t 7)⟩,
      ⟨some 16, none, .mv (.t 8)⟩,
      ⟨some 17, none, .mv (.t 2)⟩,
      ⟨some 18, none, .call (.k (.fn n_slices_insertionSortCmpFunc_int [] [])) [.t 14, .t 15, .t 16, .t 17]⟩])
    (.seq (.ops [⟨some 19, none, .mv (.t 8)⟩,
      ⟨some 7, none, .mv (.t 19)⟩])
    (.ops [⟨some 20, none, .mv (.t 8)⟩,
      ⟨some 21, none, .mv (.t 6)⟩,
      ⟨some 22, none, .bin .add (.t 20) (.t 21)⟩,
      ⟨some 8, none, .mv (.t 22)⟩]))))
def c_slices_stableCmpFunc_int : LC := .seq (.ops [⟨some 6, none, .mv (.k (.i .i64 20))⟩])
    (.seq (.ops [⟨some 10, none, .mv (.t 6)⟩,
      ⟨some 7, none, .mv (.k (.i .i64 0))⟩,
      ⟨some 8, none, .mv (.t 10)⟩])
    (.seq (.block 0 (.loop l2_slices_stableCmpFunc_int))
    (.seq (.ops [⟨some 23, none, .mv (.t 0)⟩,
      ⟨some 24, none, .mv (.t 7)⟩,
      ⟨some 25, none, .mv (.t 1)⟩,
      ⟨some 26, none, .mv (.t 2)⟩,
      ⟨some 27, none, .call (.k (.fn n_slices_insertionSortCmpFunc_int [] [])) [.t 23, .t 24, .t 25, .t 26]⟩])
    (.block 2 (.loop l1_slices_stableCmpFunc_int)))))
theorem k_slices_stableCmpFunc_int : chkF Tryz.prog Tryz.f74 63 c_slices_stableCmpFunc_int [] = true := by kernel_rfl
theorem call_slices_stableCmpFunc_int {args : List AV} {σ : List AB} {K : AV → List AB → Prop} (hn : args.length ≤ 63) (hw : wpC Tryz.prog σ.length 63 c_slices_stableCmpFunc_int (retP σ.length [] K) ⟨initT 0 args, σ⟩) : CallWp Tryz.prog n_slices_stableCmpFunc_int args σ K := call_fn mixed Tryz.func74 k_slices_stableCmpFunc_int hn hw
def l0_spec_l2Demand : LC := .seq (.seq (.ops [⟨some 7, none, .mv (.t 6)⟩,
      ⟨some 8, none, .mv (.t 0)⟩,
      ⟨some 9, none, .len (.t 8)⟩,
      ⟨some 10, none, .bin .lss (.t 7) (.t 9)⟩])
    (.cond (.t 10) (.skip)
    (.exit 0)))
    (.seq (.block 1 (.seq (.ops [⟨some 13, none, .mv (.t 1)⟩,
      ⟨some 14, none, .mv (.t 0)⟩,
      ⟨some 15, none, .mv (.t 6)⟩,
      ⟨some 16, none, .ia 3 (.t 14) (.t 15)⟩,
      ⟨some 17, none, .fa 1 (.t 16)⟩,
      ⟨some 18, none, .ld (.t 17)⟩,
      ⟨some 19, none, .bin .geq (.t 13) (.t 18)⟩])
    (.cond (.t 19) (.draw 22 [⟨some 20, none, .mv (.t 5)⟩,
      ⟨some 21, none, .mv (.t 1)⟩,
      ⟨some 22, none, .mv (.t 0)⟩,
      ⟨some 23, none, .mv (.t 6)⟩,
      ⟨some 24, none, .ia 3 (.t 22) (.t 23)⟩,
      ⟨some 25, none, .fa 1 (.t 24)⟩,
      ⟨some 26, none, .ld (.t 25)⟩,
      ⟨some 27, none, .bin .sub (.t 21) (.t 26)⟩,
      ⟨some 28, none, .mv (.t 0)⟩,
      ⟨some 29, none, .mv (.t 6)⟩,
      ⟨some 30, none, .ia 3 (.t 28) (.t 29)⟩,
      ⟨some 31, none, .fa 2 (.t 30)⟩,
      ⟨some 32, none, .ld (.t 31)⟩,
      ⟨some 33, none, .bin .quo (.t 27) (.t 32)⟩,
      ⟨some 34, none, .bin .add (.t 33) (.k (.i .i64 1))⟩,
      ⟨some 35, none, .mv (.t 0)⟩,
      ⟨some 36, none, .mv (.t 6)⟩,
      ⟨some 37, none, .ia 3 (.t 35) (.t 36)⟩,
      ⟨some 38, none, .fa 0 (.t 37)⟩,
      ⟨some 39, none, .ld (.t 38)⟩,
      ⟨some 40, none, .bin .mul (.t 34) (.t 39)⟩,
      ⟨some 41, none, .bin .add (.t 20) (.t 40)⟩,
      ⟨some 5, none, .mv (.t 41)⟩])
    (.skip))))
    (.ops [⟨some 11, none, .mv (.t 6)⟩,
      ⟨some 12, none, .bin .add (.t 11) (.k (.i .i64 1))⟩,
      ⟨some 6, none, .mv (.t 12)⟩]))
def c_spec_l2Demand : LC := .seq (.ops [⟨some 4, none, .mv (.k (.i .i64 0))⟩])
    (.seq (.ops [⟨some 5, none, .mv (.k (.i .i64 0))⟩])
    (.seq (.seq (.ops [⟨some 6, none, .mv (.k (.i .i64 0))⟩])
    (.block 0 (.loop l0_spec_l2Demand)))
    (.seq (.ops [⟨some 42, none, .mv (.t 5)⟩,
      ⟨some 4, none, .mv (.t 42)⟩])
    (.ret))))
theorem k_spec_l2Demand : chkF Tryz.prog Tryz.f75 43 c_spec_l2Demand [.t 4] = true := by kernel_rfl
theorem call_spec_l2Demand {args : List AV} {σ : List AB} {K : AV → List AB → Prop} (hn : args.length ≤ 43) (hw : wpC Tryz.prog σ.length 43 c_spec_l2Demand (retP σ.length [.t 4] K) ⟨initT 0 args, σ⟩) : CallWp Tryz.prog n_spec_l2Demand args σ K := call_fn mixed Tryz.func75 k_spec_l2Demand hn hw
def l0_spec_l4Index : LC := .seq (.seq (.ops [⟨some 6, none, .mv (.t 5)⟩,
      ⟨some 7, none, .mv (.t 0)⟩,
      ⟨some 8, none, .len (.t 7)⟩,
      ⟨some 9, none, .bin .lss (.t 6) (.t 8)⟩])
    (.cond (.t 9) (.skip)
    (.exit 0)))
    (.seq (.block 1 (.seq (.ops [⟨some 12, none, .mv (.t 0)⟩,
      ⟨some 13, none, .mv (.t 5)⟩,
      ⟨some 14, none, .ia 1 (.t 12) (.t 13)⟩,
      ⟨some 15, none, .ld (.t 14)⟩,
      ⟨some 16, none, .mv (.t 1)⟩,
      ⟨some 17, none, .bin .eql (.t 15) (.t 16)⟩])
    (.cond (.t 17) (.seq (.ops [⟨some 18, none, .mv (.t 5)⟩,
      ⟨some 4, none, .mv (.t 18)⟩])
    (.ret))
    (.skip))))
    (.ops [⟨some 10, none, .mv (.t 5)⟩,
      ⟨some 11, none, .bin .add (.t 10) (.k (.i .i64 1))⟩,
      ⟨some 5, none, .mv (.t 11)⟩]))
def c_spec_l4Index : LC := .seq (.ops [⟨some 4, none, .mv (.k (.i .i64 0))⟩])
    (.seq (.seq (.ops [⟨some 5, none, .mv (.k (.i .i64 0))⟩])
    (.block 0 (.loop l0_spec_l4Index)))
    (.seq (.ops [⟨some 4, none, .mv (.k (.i .i64 (-1)))⟩])
    (.ret)))
theorem k_spec_l4Index : chkF Tryz.prog Tryz.f76 19 c_spec_l4Index [.t 4] = true := by kernel_rfl
theorem call_spec_l4Index {args : List AV} {σ : List AB} {K : AV → List AB → Prop} (hn : args.length ≤ 19) (hw : wpC Tryz.prog σ.length 19 c_spec_l4Index (retP σ.length [.t 4] K) ⟨initT 0 args, σ⟩) : CallWp Tryz.prog n_spec_l4Index args σ K := call_fn mixed Tryz.func76 k_spec_l4Index hn hw
def c_spec_l2Edf : LC := .seq (.ops [⟨some 2, none, .mv (.k (.b false))⟩])
    (.seq (.ops [⟨some 3, none, .mv (.t 0)⟩,
      ⟨some 4, none, .mv (.t 0)⟩,
      ⟨some 5, none, .call (.k (.fn n_spec_l1Hyper [] [])) [.t 4]⟩,
      ⟨some 6, none, .call (.k (.fn n_spec_l2Overload [] [])) [.t 3, .t 5]⟩,
      ⟨some 7, none, .bin .eql (.t 6) (.k (.i .i64 (-1)))⟩,
      ⟨some 2, none, .mv (.t 7)⟩])
    (.ret))
theorem k_spec_l2Edf : chkF Tryz.prog Tryz.f77 8 c_spec_l2Edf [.t 2] = true := by kernel_rfl
theorem call_spec_l2Edf {args : List AV} {σ : List AB} {K : AV → List AB → Prop} (hn : args.length ≤ 8) (hw : wpC Tryz.prog σ.length 8 c_spec_l2Edf (retP σ.length [.t 2] K) ⟨initT 0 args, σ⟩) : CallWp Tryz.prog n_spec_l2Edf args σ K := call_fn mixed Tryz.func77 k_spec_l2Edf hn hw
def l0_spec_l7On : LC := .seq (.seq (.ops [⟨some 10, none, .mv (.t 8)⟩,
      ⟨some 11, none, .mv (.t 1)⟩,
      ⟨some 12, none, .len (.t 11)⟩,
      ⟨some 13, none, .bin .lss (.t 10) (.t 12)⟩])
    (.cond (.t 13) (.skip)
    (.exit 0)))
    (.seq (.block 1 (.seq (.ops [⟨some 16, none, .mv (.t 1)⟩,
      ⟨some 17, none, .mv (.t 8)⟩,
      ⟨some 18, none, .ia 1 (.t 16) (.t 17)⟩,
      ⟨some 19, none, .ld (.t 18)⟩,
      ⟨some 20, none, .mv (.t 2)⟩,
      ⟨some 21, none, .bin .eql (.t 19) (.t 20)⟩])
    (.cond (.t 21) (.ops [⟨some 22, none, .mv (.t 7)⟩,
      ⟨some 23, none, .mv (.t 0)⟩,
      ⟨some 24, none, .mv (.t 8)⟩,
      ⟨some 25, none, .ia 3 (.t 23) (.t 24)⟩,
      ⟨some 26, none, .ldn 3 (.t 25)⟩,
      ⟨some 27, none, .bsl ty_impl_Task [.i .i64 0, .i .i64 0, .i .i64 0] 1 [(0, 3, .t 26)]⟩,
      ⟨some 28, none, .app ty_impl_Task 3 24 (.t 22) (.t 27)⟩,
      ⟨some 7, none, .mv (.t 28)⟩])
    (.skip))))
    (.ops [⟨some 14, none, .mv (.t 8)⟩,
      ⟨some 15, none, .bin .add (.t 14) (.k (.i .i64 1))⟩,
      ⟨some 8, none, .mv (.t 15)⟩]))
def c_spec_l7On : LC := .seq (.ops [⟨some 6, none, .mv (.k (.sn))⟩])
    (.seq (.ops [⟨some 9, none, .bsl ty_impl_Task [.i .i64 0, .i .i64 0, .i .i64 0] 0 []⟩,
      ⟨some 7, none, .mv (.t 9)⟩])
    (.seq (.seq (.ops [⟨some 8, none, .mv (.k (.i .i64 0))⟩])
    (.block 0 (.loop l0_spec_l7On)))
    (.seq (.ops [⟨some 29, none, .mv (.t 7)⟩,
      ⟨some 6, none, .mv (.t 29)⟩])
    (.ret))))
theorem k_spec_l7On : chkF Tryz.prog Tryz.f78 30 c_spec_l7On [.t 6] = true := by kernel_rfl
theorem call_spec_l7On {args : List AV} {σ : List AB} {K : AV → List AB → Prop} (hn : args.length ≤ 30) (hw : wpC Tryz.prog σ.length 30 c_spec_l7On (retP σ.length [.t 6] K) ⟨initT 0 args, σ⟩) : CallWp Tryz.prog n_spec_l7On args σ K := call_fn mixed Tryz.func78 k_spec_l7On hn hw
def l0_slices_IndexFunc_impl_Task : LC := .seq (.ops [⟨some 9, none, .bin .lss (.t 8) (.t 7)⟩])
    (.seq (.cond (.t 9) (.skip)
    (.exit 0))
    (.seq (.block 1 (.seq (.ops [⟨some 10, none, .mv (.t 8)⟩,
      ⟨some 5, none, .mv (.t 10)⟩])
    (.seq (.ops [⟨some 11, none, .mv (.t 1)⟩,
      ⟨some 12, none, .mv (.t 0)⟩,
      ⟨some 13, none, .mv (.t 5)⟩,
      ⟨some 14, none, .ia 3 (.t 12) (.t 13)⟩,
      ⟨some 15, none, .ldn 3 (.t 14)⟩,
      ⟨some 16, none, .call (.t 11) [.t 15]⟩])
    (.cond (.t 16) (.seq (.ops [⟨some 17, none, .mv (.t 5)⟩,
      ⟨some 4, none, .mv (.t 17)⟩])
    (.ret))
    (.skip)))))
    (.ops [⟨some 18, none, .bin .add (.t 8) (.k (.i .i64 1))⟩,
      ⟨some 8, none, .mv (.t 18)⟩])))
def c_slices_IndexFunc_impl_Task : LC := .seq (.ops [⟨some 4, none, .mv (.k (.i .i64 0))⟩])
    (.seq (.seq (.ops [⟨some 6, none, .mv (.t 0)⟩,
      ⟨some 7, none, .len (.t 6)⟩,
      ⟨some 8, none, .mv (.k (.i .i64 0))⟩])
    (.block 0 (.loop l0_slices_IndexFunc_impl_Task)))
    (.seq (.ops [⟨some 4, none, .mv (.k (.i .i64 (-1)))⟩])
    (.ret)))
theorem k_slices_IndexFunc_impl_Task : chkF Tryz.prog Tryz.f87 19 c_slices_IndexFunc_impl_Task [.t 4] = true := by kernel_rfl
theorem call_slices_IndexFunc_impl_Task {args : List AV} {σ : List AB} {K : AV → List AB → Prop} (hn : args.length ≤ 19) (hw : wpC Tryz.prog σ.length 19 c_slices_IndexFunc_impl_Task (retP σ.length [.t 4] K) ⟨initT 0 args, σ⟩) : CallWp Tryz.prog n_slices_IndexFunc_impl_Task args σ K := call_fn mixed Tryz.func87 k_slices_IndexFunc_impl_Task hn hw
def l0_slices_Repeat_int : LC := .seq (.seq (.ops [⟨some 34, none, .mv (.t 8)⟩,
      ⟨some 35, none, .mv (.t 7)⟩,
      ⟨some 36, none, .len (.t 35)⟩,
      ⟨some 37, none, .bin .lss (.t 34) (.t 36)⟩])
    (.cond (.t 37) (.skip)
    (.exit 0)))
    (.block 1 (.plan [0, 1, 2, 3, 4, 5, 6] [⟨some 38, none, .mv (.t 8)⟩,
      ⟨some 39, none, .mv (.t 7)⟩,
      ⟨some 40, none, .mv (.t 8)⟩,
      ⟨some 41, none, .slc 1 (.t 39) (some (.t 40)) none none⟩,
      ⟨some 42, none, .mv (.t 7)⟩,
      ⟨some 43, none, .mv (.t 8)⟩,
      ⟨some 44, none, .slc 1 (.t 42) none (some (.t 43)) none⟩]
      (.one 7 ⟨some 45, none, .copy (.t 41) (.t 44)⟩ [] [8]
        [⟨some 46, none, .bin .add (.t 38) (.t 45)⟩]
      (.one 9 ⟨some 8, none, .mv (.t 46)⟩ [] []
        []
      .fin))))
def c_slices_Repeat_int : LC := .seq (.ops [⟨some 4, none, .mv (.k (.sn))⟩])
    (.seq (.seq (.ops [⟨some 9, none, .mv (.t 1)⟩,
      ⟨some 10, none, .bin .lss (.t 9) (.k (.i .i64 0))⟩])
    (.cond (.t 10) (.ops [⟨some 11, none, .die⟩,
      ⟨none, none, .die⟩])
    (.skip)))
    (.seq (.ops [⟨some 13, none, .mv (.t 0)⟩,
      ⟨some 14, none, .len (.t 13)⟩,
      ⟨some 15, none, .conv .u64 (.t 14)⟩,
      ⟨some 16, none, .mv (.t 1)⟩,
      ⟨some 17, none, .conv .u64 (.t 16)⟩,
      ⟨some 18, none, .call (.k (.fn n_math_bits_Mul [] [])) [.t 15, .t 17]⟩,
      ⟨some 12, none, .mv (.t 18)⟩,
      ⟨some 19, none, .ext 0 (.t 12)⟩,
      ⟨some 20, none, .ext 1 (.t 12)⟩,
      ⟨some 5, none, .mv (.t 19)⟩,
      ⟨some 6, none, .mv (.t 20)⟩])
    (.seq (.seq (.ops [⟨some 21, none, .mv (.t 5)⟩,
      ⟨some 22, none, .bin .gtr (.t 21) (.k (.i .u64 0))⟩,
      ⟨some 23, none, .mv (.t 22)⟩,
      ⟨some 24, (some (23, false)), .mv (.t 6)⟩,
      ⟨some 25, (some (23, false)), .bin .gtr (.t 24) (.k (.i .u64 9223372036854775807))⟩,
      ⟨some 26, none, .pick (.t 23) (.k (.b true)) (.t 25)⟩])
    (.cond (.t 26) (.ops [⟨some 27, none, .die⟩,
      ⟨none, none, .die⟩])
    (.skip)))
    (.seq (.ops [⟨some 28, none, .mv (.t 6)⟩,
      ⟨some 29, none, .conv .i64 (.t 28)⟩,
      ⟨some 30, none, .msl ty_int 8 [.i .i64 0] (.t 29)⟩,
      ⟨some 7, none, .mv (.t 30)⟩])
    (.seq (.ops [⟨some 31, none, .mv (.t 7)⟩,
      ⟨some 32, none, .mv (.t 0)⟩,
      ⟨some 33, none, .copy (.t 31) (.t 32)⟩,
      ⟨some 8, none, .mv (.t 33)⟩])
    (.seq (.block 0 (.loop l0_slices_Repeat_int))
    (.seq (.ops [⟨some 47, none, .mv (.t 7)⟩,
      ⟨some 4, none, .mv (.t 47)⟩])
    (.ret))))))))
theorem k_slices_Repeat_int : chkF Tryz.prog Tryz.f88 48 c_slices_Repeat_int [.t 4] = true := by kernel_rfl
theorem call_slices_Repeat_int {args : List AV} {σ : List AB} {K : AV → List AB → Prop} (hn : args.length ≤ 48) (hw : wpC Tryz.prog σ.length 48 c_slices_Repeat_int (retP σ.length [.t 4] K) ⟨initT 0 args, σ⟩) : CallWp Tryz.prog n_slices_Repeat_int args σ K := call_fn mixed Tryz.func88 k_slices_Repeat_int hn hw
def l0_impl_onCore : LC := .seq (.ops [⟨some 13, none, .bin .lss (.t 12) (.t 11)⟩])
    (.seq (.cond (.t 13) (.skip)
    (.exit 0))
    (.seq (.block 1 (.seq (.ops [⟨some 14, none, .mv (.t 12)⟩,
      ⟨some 15, none, .ia 1 (.t 10) (.t 12)⟩,
      ⟨some 16, none, .ld (.t 15)⟩,
      ⟨some 8, none, .mv (.t 14)⟩,
      ⟨some 9, none, .mv (.t 16)⟩])
    (.seq (.ops [⟨some 17, none, .mv (.t 9)⟩,
      ⟨some 18, none, .mv (.t 2)⟩,
      ⟨some 19, none, .bin .eql (.t 17) (.t 18)⟩])
    (.cond (.t 19) (.ops [⟨some 20, none, .mv (.t 7)⟩,
      ⟨some 21, none, .mv (.t 0)⟩,
      ⟨some 22, none, .mv (.t 8)⟩,
      ⟨some 23, none, .ia 3 (.t 21) (.t 22)⟩,
      ⟨some 24, none, .ldn 3 (.t 23)⟩,
      ⟨some 25, none, .bsl ty_impl_Task [.i .i64 0, .i .i64 0, .i .i64 0] 1 [(0, 3, .t 24)]⟩,
      ⟨some 26, none, .app ty_impl_Task 3 24 (.t 20) (.t 25)⟩,
      ⟨some 7, none, .mv (.t 26)⟩])
    (.skip)))))
    (.ops [⟨some 27, none, .bin .add (.t 12) (.k (.i .i64 1))⟩,
      ⟨some 12, none, .mv (.t 27)⟩])))
def c_impl_onCore : LC := .seq (.ops [⟨some 6, none, .mv (.k (.sn))⟩])
    (.seq (.ops [⟨some 7, none, .mv (.k (.sn))⟩])
    (.seq (.seq (.ops [⟨some 10, none, .mv (.t 1)⟩,
      ⟨some 11, none, .len (.t 10)⟩,
      ⟨some 12, none, .mv (.k (.i .i64 0))⟩])
    (.block 0 (.loop l0_impl_onCore)))
    (.seq (.ops [⟨some 28, none, .mv (.t 7)⟩,
      ⟨some 29, none, .call (.k (.fn n_slices_Clip_impl_Task [] [])) [.t 28]⟩,
      ⟨some 6, none, .mv (.t 29)⟩])
    (.ret))))
theorem k_impl_onCore : chkF Tryz.prog Tryz.f89 30 c_impl_onCore [.t 6] = true := by kernel_rfl
theorem call_impl_onCore {args : List AV} {σ : List AB} {K : AV → List AB → Prop} (hn : args.length ≤ 30) (hw : wpC Tryz.prog σ.length 30 c_impl_onCore (retP σ.length [.t 6] K) ⟨initT 0 args, σ⟩) : CallWp Tryz.prog n_impl_onCore args σ K := call_fn mixed Tryz.func89 k_impl_onCore hn hw
def c_impl_ceil : LC := .seq (.ops [⟨some 4, none, .mv (.k (.i .i64 0))⟩])
    (.seq (.ops [⟨some 5, none, .mv (.t 0)⟩,
      ⟨some 6, none, .mv (.t 1)⟩,
      ⟨some 7, none, .bin .add (.t 5) (.t 6)⟩,
      ⟨some 8, none, .bin .sub (.t 7) (.k (.i .i64 1))⟩,
      ⟨some 9, none, .mv (.t 1)⟩,
      ⟨some 10, none, .bin .quo (.t 8) (.t 9)⟩,
      ⟨some 4, none, .mv (.t 10)⟩])
    (.ret))
theorem k_impl_ceil : chkF Tryz.prog Tryz.f94 11 c_impl_ceil [.t 4] = true := by kernel_rfl
theorem call_impl_ceil {args : List AV} {σ : List AB} {K : AV → List AB → Prop} (hn : args.length ≤ 11) (hw : wpC Tryz.prog σ.length 11 c_impl_ceil (retP σ.length [.t 4] K) ⟨initT 0 args, σ⟩) : CallWp Tryz.prog n_impl_ceil args σ K := call_fn mixed Tryz.func94 k_impl_ceil hn hw
def c_math_bits_Mul : LC := .seq (.ops [⟨some 4, none, .mv (.k (.i .u64 0))⟩,
      ⟨some 5, none, .mv (.k (.i .u64 0))⟩])
    (.seq (.cond (.k (.b false)) (.seq (.ops [⟨some 11, none, .mv (.t 0)⟩,
      ⟨some 12, none, .conv .u32 (.t 11)⟩,
      ⟨some 13, none, .mv (.t 1)⟩,
      ⟨some 14, none, .conv .u32 (.t 13)⟩,
      ⟨some 15, none, .call (.k (.fn n_math_bits_Mul32 [] [])) [.t 12, .t 14]⟩,
      ⟨some 10, none, .mv (.t 15)⟩,
      ⟨some 16, none, .ext 0 (.t 10)⟩,
      ⟨some 17, none, .ext 1 (.t 10)⟩,
      ⟨some 6, none, .mv (.t 16)⟩,
      ⟨some 7, none, .mv (.t 17)⟩])
    (.seq (.ops [⟨some 18, none, .mv (.t 6)⟩,
      ⟨some 19, none, .conv .u64 (.t 18)⟩,
      ⟨some 20, none, .mv (.t 7)⟩,
      ⟨some 21, none, .conv .u64 (.t 20)⟩,
      ⟨some 4, none, .mv (.t 19)⟩,
      ⟨some 5, none, .mv (.t 21)⟩])
    (.ret)))
    (.skip))
    (.seq (.ops [⟨some 23, none, .mv (.t 0)⟩,
      ⟨some 24, none, .mv (.t 1)⟩,
      ⟨some 25, none, .call (.k (.fn n_math_bits_Mul64 [] [])) [.t 23, .t 24]⟩,
      ⟨some 22, none, .mv (.t 25)⟩,
      ⟨some 26, none, .ext 0 (.t 22)⟩,
      ⟨some 27, none, .ext 1 (.t 22)⟩,
      ⟨some 8, none, .mv (.t 26)⟩,
      ⟨some 9, none, .mv (.t 27)⟩])
    (.seq (.ops [⟨some 28, none, .mv (.t 8)⟩,
      ⟨some 29, none, .mv (.t 9)⟩,
      ⟨some 4, none, .mv (.t 28)⟩,
      ⟨some 5, none, .mv (.t 29)⟩])
    (.ret))))
theorem k_math_bits_Mul : chkF Tryz.prog Tryz.f104 30 c_math_bits_Mul [.t 4, .t 5] = true := by kernel_rfl
theorem call_math_bits_Mul {args : List AV} {σ : List AB} {K : AV → List AB → Prop} (hn : args.length ≤ 30) (hw : wpC Tryz.prog σ.length 30 c_math_bits_Mul (retP σ.length [.t 4, .t 5] K) ⟨initT 0 args, σ⟩) : CallWp Tryz.prog n_math_bits_Mul args σ K := call_fn mixed Tryz.func104 k_math_bits_Mul hn hw
def c_slices_Clip_impl_Task : LC := .seq (.ops [⟨some 2, none, .mv (.k (.sn))⟩])
    (.seq (.ops [⟨some 3, none, .mv (.t 0)⟩,
      ⟨some 4, none, .mv (.t 0)⟩,
      ⟨some 5, none, .len (.t 4)⟩,
      ⟨some 6, none, .mv (.t 0)⟩,
      ⟨some 7, none, .len (.t 6)⟩,
      ⟨some 8, none, .slc 3 (.t 3) none (some (.t 5)) (some (.t 7))⟩,
      ⟨some 2, none, .mv (.t 8)⟩])
    (.ret))
theorem k_slices_Clip_impl_Task : chkF Tryz.prog Tryz.f105 9 c_slices_Clip_impl_Task [.t 2] = true := by kernel_rfl
theorem call_slices_Clip_impl_Task {args : List AV} {σ : List AB} {K : AV → List AB → Prop} (hn : args.length ≤ 9) (hw : wpC Tryz.prog σ.length 9 c_slices_Clip_impl_Task (retP σ.length [.t 2] K) ⟨initT 0 args, σ⟩) : CallWp Tryz.prog n_slices_Clip_impl_Task args σ K := call_fn mixed Tryz.func105 k_slices_Clip_impl_Task hn hw
def l0_slices_rotateCmpFunc_int : LC := .seq (.seq (.ops [⟨some 18, none, .mv (.t 10)⟩,
      ⟨some 19, none, .mv (.t 11)⟩,
      ⟨some 20, none, .bin .neq (.t 18) (.t 19)⟩])
    (.cond (.t 20) (.skip)
    (.exit 0)))
    (.block 1 (.seq (.ops [⟨some 21, none, .mv (.t 10)⟩,
      ⟨some 22, none, .mv (.t 11)⟩,
      ⟨some 23, none, .bin .gtr (.t 21) (.t 22)⟩])
    (.cond (.t 23) (.seq (.ops [⟨some 24, none, .mv (.t 0)⟩,
      ⟨some 25, none, .mv (.t 2)⟩,
      ⟨some 26, none, .mv (.t 10)⟩,
      ⟨some 27, none, .bin .sub (.t 25) (.t 26)⟩,
      ⟨some 28, none, .mv (.t 2)⟩,
      ⟨some 29, none, .mv (.t 11)⟩,
      ⟨some 30, none, .mv (.t 4)⟩,
      ⟨some 31, none, .call (.k (.fn n_slices_swapRangeCmpFunc_int [] [])) [.t 24, .t 27, .t 28, .t 29, .t 30]⟩])
    (.ops [⟨some 32, none, .mv (.t 10)⟩,
      ⟨some 33, none, .mv (.t 11)⟩,
      ⟨some 34, none, .bin .sub (.t 32) (.t 33)⟩,
      ⟨some 10, none, .mv (.t 34)⟩]))
    (.seq (.ops [⟨some 35, none, .mv (.t 0)⟩,
      ⟨some 36, none, .mv (.t 2)⟩,
      ⟨some 37, none, .mv (.t 10)⟩,
      ⟨some 38, none, .bin .sub (.t 36) (.t 37)⟩,
      ⟨some 39, none, .mv (.t 2)⟩,
      ⟨some 40, none, .mv (.t 11)⟩,
      ⟨some 41, none, .bin .add (.t 39) (.t 40)⟩,
      ⟨some 42, none, .mv (.t 10)⟩,
      ⟨some 43, none, .bin .sub (.t 41) (.t 42)⟩,
      ⟨some 44, none, .mv (.t 10)⟩,
      ⟨some 45, none, .mv (.t 4)⟩,
      ⟨some 46, none, .call (.k (.fn n_slices_swapRangeCmpFunc_int [] [])) [.t 35, .t 38, .t 43, .t 44, .t 45]⟩])
    (.ops [⟨some 47, none, .mv (.t 11)⟩,
      ⟨some 48, none, .mv (.t 10)⟩,
      ⟨some 49, none, .bin .sub (.t 47) (.t 48)⟩,
      ⟨some 11, none, .mv (.t 49)⟩])))))
def c_slices_rotateCmpFunc_int : LC := .seq (.ops [⟨some 12, none, .mv (.t 2)⟩,
      ⟨some 13, none, .mv (.t 1)⟩,
      ⟨some 14, none, .bin .sub (.t 12) (.t 13)⟩,
      ⟨some 10, none, .mv (.t 14)⟩])
    (.seq (.ops [⟨some 15, none, .mv (.t 3)⟩,
      ⟨some 16, none, .mv (.t 2)⟩,
      ⟨some 17, none, .bin .sub (.t 15) (.t 16)⟩,
      ⟨some 11, none, .mv (.t 17)⟩])
    (.seq (.block 0 (.loop l0_slices_rotateCmpFunc_int))
    (.ops [⟨some 50, none, .mv (.t 0)⟩,
      ⟨some 51, none, .mv (.t 2)⟩,
      ⟨some 52, none, .mv (.t 10)⟩,
      ⟨some 53, none, .bin .sub (.t 51) (.t 52)⟩,
      ⟨some 54, none, .mv (.t 2)⟩,
      ⟨some 55, none, .mv (.t 10)⟩,
      ⟨some 56, none, .mv (.t 4)⟩,
      ⟨some 57, none, .call (.k (.fn n_slices_swapRangeCmpFunc_int [] [])) [.t 50, .t 53, .t 54, .t 55, .t 56]⟩])))
theorem k_slices_rotateCmpFunc_int : chkF Tryz.prog Tryz.f111 58 c_slices_rotateCmpFunc_int [] = true := by kernel_rfl
theorem call_slices_rotateCmpFunc_int {args : List AV} {σ : List AB} {K : AV → List AB → Prop} (hn : args.length ≤ 58) (hw : wpC Tryz.prog σ.length 58 c_slices_rotateCmpFunc_int (retP σ.length [] K) ⟨initT 0 args, σ⟩) : CallWp Tryz.prog n_slices_rotateCmpFunc_int args σ K := call_fn mixed Tryz.func111 k_slices_rotateCmpFunc_int hn hw
end Go.Proofs.YtfngcejaphhmmaaGreatDoor
