import Derived.Test.YtfngcejaphhmmaaProg
import Derived.Test.YtfngcejaphhmmaaAbsY
import Derived.KernelRfl
namespace Go.Proofs.Ytfngcejaphhmmaa
open Go.Abs
set_option maxRecDepth 100000
theorem mixed : Try.prog.follows .mixedOrders = true := by kernel_rfl
abbrev n_laws_FnTableEdf : Nat := 4
abbrev n_spec_DrawTable : Nat := 11
abbrev n_impl_Table : Nat := 12
abbrev n_spec_Table : Nat := 13
abbrev n_laws_alive : Nat := 17
abbrev n_impl_Synchronous : Nat := 19
abbrev n_impl_RunEdf : Nat := 20
abbrev n_spec_SetValid : Nat := 28
abbrev n_impl_SetValid : Nat := 31
abbrev n_spec_l20Set : Nat := 46
abbrev n_spec_l20Open : Nat := 47
abbrev n_impl_feasible : Nat := 48
abbrev n_impl_hyper : Nat := 49
abbrev n_impl_none : Nat := 50
abbrev n_spec_l1Hyper : Nat := 51
abbrev n_spec_l2Edf : Nat := 52
abbrev n_spec_l13Due : Nat := 53
abbrev n_impl_TaskValid : Nat := 54
abbrev n_impl_in : Nat := 55
abbrev n_slices_Clip_impl_Job : Nat := 56
abbrev n_impl_JobsLegal : Nat := 57
abbrev n_impl_simulate : Nat := 58
abbrev n_impl_edf : Nat := 59
abbrev n_spec_l1In : Nat := 63
abbrev n_spec_TaskValid : Nat := 67
abbrev n_slices_ContainsFunc_impl_Task : Nat := 71
abbrev n_impl_SetValid_1 : Nat := 72
abbrev n_spec_l20Rd_pick : Nat := 84
abbrev n_spec_l20Task : Nat := 85
abbrev n_spec_l20Rd_odd : Nat := 86
abbrev n_impl_FirstOverload : Nat := 87
abbrev n_impl_lcm : Nat := 88
abbrev n_slices_Repeat_int : Nat := 89
abbrev n_spec_l1Gcd : Nat := 90
abbrev n_spec_l2Overload : Nat := 91
abbrev n_impl_ordered : Nat := 92
abbrev n_impl_JobsLegal_1 : Nat := 93
abbrev n_impl_spaced : Nat := 94
abbrev n_impl_release : Nat := 95
abbrev n_impl_JobsLegal_2 : Nat := 96
abbrev n_slices_ContainsFunc_impl_Job : Nat := 97
abbrev n_impl_JobsLegal_3 : Nat := 98
abbrev n_impl_newMachine : Nat := 99
abbrev n_impl_machine_best : Nat := 100
abbrev n_impl_machine_deadline : Nat := 101
abbrev n_impl_machine_any : Nat := 102
abbrev n_impl_gcd : Nat := 107
abbrev n_slices_IndexFunc_impl_Task : Nat := 108
abbrev n_impl_demand : Nat := 112
abbrev n_math_bits_Mul : Nat := 113
abbrev n_spec_l2Demand : Nat := 114
abbrev n_slices_IndexFunc_impl_Job : Nat := 115
abbrev n_impl_machine_ready : Nat := 116
abbrev n_math_bits_Mul32 : Nat := 118
abbrev n_math_bits_Mul64 : Nat := 119
abbrev ty_int : Nat := 3
abbrev ty_sl_impl_Task : Nat := 23
abbrev ty_impl_Schedule : Nat := 37
abbrev ty_impl_Task : Nat := 43
abbrev ty_impl_Job : Nat := 66
abbrev ty_spec_l20Rd : Nat := 92
abbrev ty_impl_machine : Nat := 103
def l0_laws_FnTableEdf : LC := .seq (.seq (.ops [⟨some 42, none, .mv (.t 10)⟩,
      ⟨some 43, none, .mv (.t 4)⟩,
      ⟨some 44, none, .len (.t 43)⟩,
      ⟨some 45, none, .bin .lss (.t 42) (.t 44)⟩,
      ⟨some 46, none, .mv (.t 45)⟩,
      ⟨some 47, (some (46, true)), .mv (.t 10)⟩,
      ⟨some 48, (some (46, true)), .bin .lss (.t 47) (.k (.i .i64 108))⟩,
      ⟨some 49, none, .pick (.t 46) (.t 48) (.k (.b false))⟩])
    (.cond (.t 49) (.skip)
    (.exit 0)))
    (.seq (.block 1 (.seq (.draw 12 [⟨some 52, none, .mv (.t 4)⟩,
      ⟨some 53, none, .mv (.t 10)⟩,
      ⟨some 54, none, .ia 1 (.t 52) (.t 53)⟩,
      ⟨some 55, none, .ld (.t 54)⟩,
      ⟨some 56, none, .bin .lss (.t 55) (.k (.i .i64 0))⟩,
      ⟨some 57, none, .fa 0 (.t 9)⟩,
      ⟨some 58, none, .ld (.t 57)⟩,
      ⟨some 59, none, .mv (.t 10)⟩,
      ⟨some 60, none, .ia 1 (.t 58) (.t 59)⟩,
      ⟨some 61, none, .ld (.t 60)⟩,
      ⟨some 62, none, .bin .lss (.t 61) (.k (.i .i64 0))⟩,
      ⟨some 63, none, .beq true (.t 56) (.t 62)⟩])
    (.cond (.t 63) (.seq (.ops [⟨some 2, none, .mv (.k (.b false))⟩])
    (.ret))
    (.skip))))
    (.ops [⟨some 50, none, .mv (.t 10)⟩,
      ⟨some 51, none, .bin .add (.t 50) (.k (.i .i64 1))⟩,
      ⟨some 10, none, .mv (.t 51)⟩]))
def c_laws_FnTableEdf : LC := .seq (.ops [⟨some 2, none, .mv (.k (.b false))⟩])
    (.seq (.seq (.ops [⟨some 11, none, .mv (.t 0)⟩,
      ⟨some 12, none, .len (.t 11)⟩,
      ⟨some 13, none, .bin .gtr (.t 12) (.k (.i .i64 1048576))⟩])
    (.cond (.t 13) (.seq (.ops [⟨some 2, none, .mv (.k (.b true))⟩])
    (.ret))
    (.skip)))
    (.seq (.ops [⟨some 14, none, .mv (.t 0)⟩,
      ⟨some 15, none, .call (.k (.fn n_spec_DrawTable [] [])) [.t 14]⟩,
      ⟨some 3, none, .mv (.t 15)⟩])
    (.seq (.ops [⟨some 17, none, .mv (.t 3)⟩,
      ⟨some 18, none, .call (.k (.fn n_impl_Table [] [])) [.t 17]⟩,
      ⟨some 16, none, .mv (.t 18)⟩,
      ⟨some 19, none, .ext 0 (.t 16)⟩,
      ⟨some 20, none, .ext 1 (.t 16)⟩,
      ⟨some 4, none, .mv (.t 19)⟩,
      ⟨some 5, none, .mv (.t 20)⟩])
    (.seq (.ops [⟨some 22, none, .mv (.t 3)⟩,
      ⟨some 23, none, .call (.k (.fn n_spec_Table [] [])) [.t 22]⟩,
      ⟨some 21, none, .mv (.t 23)⟩,
      ⟨some 24, none, .ext 0 (.t 21)⟩,
      ⟨some 25, none, .ext 1 (.t 21)⟩,
      ⟨some 6, none, .mv (.t 24)⟩,
      ⟨some 7, none, .mv (.t 25)⟩])
    (.seq (.seq (.ops [⟨some 26, none, .mv (.t 5)⟩,
      ⟨some 27, none, .mv (.t 7)⟩,
      ⟨some 28, none, .beq true (.t 26) (.t 27)⟩])
    (.cond (.t 28) (.seq (.ops [⟨some 2, none, .mv (.k (.b false))⟩])
    (.ret))
    (.skip)))
    (.seq (.ops [⟨some 29, none, .mv (.t 3)⟩,
      ⟨some 30, none, .call (.k (.fn n_impl_Synchronous [] [])) [.t 29, .k (.i .i64 120)]⟩,
      ⟨some 8, none, .mv (.t 30)⟩])
    (.seq (.seq (.ops [⟨some 31, none, .mv (.t 5)⟩,
      ⟨some 32, none, .not (.t 31)⟩,
      ⟨some 33, none, .mv (.t 32)⟩,
      ⟨some 34, (some (33, false)), .mv (.t 8)⟩,
      ⟨some 35, (some (33, false)), .len (.t 34)⟩,
      ⟨some 36, (some (33, false)), .bin .eql (.t 35) (.k (.i .i64 60))⟩,
      ⟨some 37, none, .pick (.t 33) (.k (.b true)) (.t 36)⟩])
    (.cond (.t 37) (.seq (.ops [⟨some 38, none, .call (.k (.fn n_laws_alive [] [])) []⟩,
      ⟨some 2, none, .mv (.t 38)⟩])
    (.ret))
    (.skip)))
    (.seq (.ops [⟨some 39, none, .mv (.t 3)⟩,
      ⟨some 40, none, .mv (.t 8)⟩,
      ⟨some 41, none, .call (.k (.fn n_impl_RunEdf [] [])) [.t 39, .t 40]⟩,
      ⟨some 9, none, .alloc ty_impl_Schedule [.sn, .sn]⟩,
      ⟨none, none, .st 2 (.t 9) (.t 41)⟩])
    (.seq (.seq (.ops [⟨some 10, none, .mv (.k (.i .i64 0))⟩])
    (.block 0 (.loop l0_laws_FnTableEdf)))
    (.seq (.ops [⟨some 64, none, .fa 0 (.t 9)⟩,
      ⟨some 65, none, .ld (.t 64)⟩,
      ⟨some 66, none, .len (.t 65)⟩,
      ⟨some 67, none, .bin .eql (.t 66) (.k (.i .i64 120))⟩,
      ⟨some 2, none, .mv (.t 67)⟩])
    (.ret)))))))))))
theorem k_laws_FnTableEdf : chkF Try.prog Try.f4 68 c_laws_FnTableEdf [.t 2] = true := by kernel_rfl
theorem call_laws_FnTableEdf {args : List AV} {σ : List AB} {K : AV → List AB → Prop} (hn : args.length ≤ 68) (hw : wpC Try.prog σ.length 68 c_laws_FnTableEdf (retP σ.length [.t 2] K) ⟨initT 0 args, σ⟩) : CallWp Try.prog n_laws_FnTableEdf args σ K := call_fn mixed Try.func4 k_laws_FnTableEdf hn hw
def c_spec_DrawTable : LC := .seq (.ops [⟨some 2, none, .mv (.k (.sn))⟩])
    (.seq (.ops [⟨some 3, none, .mv (.t 0)⟩,
      ⟨some 4, none, .call (.k (.fn n_spec_l20Open [] [])) [.t 3]⟩,
      ⟨some 5, none, .call (.k (.fn n_spec_l20Set [] [])) [.t 4, .k (.i .i64 12)]⟩,
      ⟨some 2, none, .mv (.t 5)⟩])
    (.ret))
theorem k_spec_DrawTable : chkF Try.prog Try.f11 6 c_spec_DrawTable [.t 2] = true := by kernel_rfl
theorem call_spec_DrawTable {args : List AV} {σ : List AB} {K : AV → List AB → Prop} (hn : args.length ≤ 6) (hw : wpC Try.prog σ.length 6 c_spec_DrawTable (retP σ.length [.t 2] K) ⟨initT 0 args, σ⟩) : CallWp Try.prog n_spec_DrawTable args σ K := call_fn mixed Try.func11 k_spec_DrawTable hn hw
def l0_impl_Table : LC := .seq (.ops [⟨some 41, none, .bin .lss (.t 40) (.t 39)⟩])
    (.seq (.cond (.t 41) (.skip)
    (.exit 2))
    (.seq (.block 3 (.seq (.ops [⟨some 42, none, .mv (.t 40)⟩,
      ⟨some 43, none, .ia 3 (.t 38) (.t 40)⟩,
      ⟨some 44, none, .ldn 3 (.t 43)⟩,
      ⟨some 10, none, .alloc ty_impl_Task [.i .i64 0, .i .i64 0, .i .i64 0]⟩,
      ⟨some 9, none, .mv (.t 42)⟩,
      ⟨none, none, .st 3 (.t 10) (.t 44)⟩])
    (.join (.seq (.ops [⟨some 45, none, .mv (.t 7)⟩,
      ⟨some 46, none, .fa 2 (.t 10)⟩,
      ⟨some 47, none, .ld (.t 46)⟩,
      ⟨some 48, none, .bin .rem (.t 45) (.t 47)⟩,
      ⟨some 49, none, .bin .eql (.t 48) (.k (.i .i64 0))⟩])
    (.cond (.t 49) (.plan [0, 1, 2, 3, 4, 5, 6, 7, 8, 9, 10] [⟨some 50, none, .mv (.t 5)⟩,
      ⟨some 51, none, .mv (.t 9)⟩,
      ⟨some 52, none, .mv (.t 6)⟩,
      ⟨some 53, none, .mv (.t 9)⟩,
      ⟨some 54, none, .fa 0 (.t 10)⟩,
      ⟨some 55, none, .ld (.t 54)⟩,
      ⟨some 56, none, .mv (.t 7)⟩,
      ⟨some 57, none, .fa 1 (.t 10)⟩,
      ⟨some 58, none, .ld (.t 57)⟩,
      ⟨some 59, none, .bin .add (.t 56) (.t 58)⟩,
      ⟨some 60, none, .ia 1 (.t 50) (.t 51)⟩]
      (.one 11 ⟨none, none, .st 1 (.t 60) (.t 55)⟩ [(58, none, 57)] [12]
        [⟨some 61, none, .ia 1 (.t 52) (.t 53)⟩]
      (.one 13 ⟨none, none, .st 1 (.t 61) (.t 59)⟩ [] []
        []
      .fin)))
    (.skip)))
    (.seq (.draw 20 [⟨some 62, none, .mv (.t 5)⟩,
      ⟨some 63, none, .mv (.t 9)⟩,
      ⟨some 64, none, .ia 1 (.t 62) (.t 63)⟩,
      ⟨some 65, none, .ld (.t 64)⟩,
      ⟨some 66, none, .bin .gtr (.t 65) (.k (.i .i64 0))⟩,
      ⟨some 67, none, .mv (.t 66)⟩,
      ⟨some 68, (some (67, true)), .mv (.t 8)⟩,
      ⟨some 69, (some (67, true)), .bin .lss (.t 68) (.k (.i .i64 0))⟩,
      ⟨some 70, (some (67, true)), .mv (.t 69)⟩,
      ⟨some 71, (some (70, false)), .mv (.t 6)⟩,
      ⟨some 72, (some (70, false)), .mv (.t 9)⟩,
      ⟨some 73, (some (70, false)), .ia 1 (.t 71) (.t 72)⟩,
      ⟨some 74, (some (70, false)), .ld (.t 73)⟩,
      ⟨some 75, (some (70, false)), .mv (.t 6)⟩,
      ⟨some 76, (some (70, false)), .mv (.t 8)⟩,
      ⟨some 77, (some (70, false)), .ia 1 (.t 75) (.t 76)⟩,
      ⟨some 78, (some (70, false)), .ld (.t 77)⟩,
      ⟨some 79, (some (70, false)), .bin .lss (.t 74) (.t 78)⟩,
      ⟨some 80, (some (67, true)), .pick (.t 70) (.k (.b true)) (.t 79)⟩,
      ⟨some 81, none, .pick (.t 67) (.t 80) (.k (.b false))⟩])
    (.cond (.t 81) (.ops [⟨some 82, none, .mv (.t 9)⟩,
      ⟨some 8, none, .mv (.t 82)⟩])
    (.skip))))))
    (.ops [⟨some 83, none, .bin .add (.t 40) (.k (.i .i64 1))⟩,
      ⟨some 40, none, .mv (.t 83)⟩])))
def l1_impl_Table : LC := .seq (.ops [⟨some 36, none, .bin .lss (.t 35) (.t 34)⟩])
    (.seq (.cond (.t 36) (.skip)
    (.exit 0))
    (.seq (.block 1 (.seq (.ops [⟨some 37, none, .mv (.t 35)⟩,
      ⟨some 7, none, .mv (.t 37)⟩])
    (.seq (.ops [⟨some 8, none, .mv (.k (.i .i64 (-1)))⟩])
    (.seq (.seq (.ops [⟨some 38, none, .mv (.t 0)⟩,
      ⟨some 39, none, .len (.t 38)⟩,
      ⟨some 40, none, .mv (.k (.i .i64 0))⟩])
    (.block 2 (.loop l0_impl_Table)))
    (.seq (.ops [⟨some 84, none, .mv (.t 8)⟩,
      ⟨some 85, none, .bin .geq (.t 84) (.k (.i .i64 0))⟩])
    (.cond (.t 85) (.seq (.ops [⟨some 86, none, .mv (.t 5)⟩,
      ⟨some 87, none, .mv (.t 8)⟩,
      ⟨some 88, none, .ia 1 (.t 86) (.t 87)⟩,
      ⟨some 89, none, .ld (.t 88)⟩,
      ⟨some 90, none, .bin .sub (.t 89) (.k (.i .i64 1))⟩,
      ⟨some 91, none, .ia 1 (.t 86) (.t 87)⟩,
      ⟨none, none, .st 1 (.t 91) (.t 90)⟩])
    (.ops [⟨some 92, none, .mv (.t 4)⟩,
      ⟨some 93, none, .mv (.t 7)⟩,
      ⟨some 94, none, .mv (.t 8)⟩,
      ⟨some 95, none, .ia 1 (.t 92) (.t 93)⟩,
      ⟨none, none, .st 1 (.t 95) (.t 94)⟩]))
    (.skip)))))))
    (.ops [⟨some 96, none, .bin .add (.t 35) (.k (.i .i64 1))⟩,
      ⟨some 35, none, .mv (.t 96)⟩])))
def c_impl_Table : LC := .seq (.ops [⟨some 2, none, .mv (.k (.sn))⟩,
      ⟨some 3, none, .mv (.k (.b false))⟩])
    (.seq (.seq (.ops [⟨some 11, none, .mv (.t 0)⟩,
      ⟨some 12, none, .call (.k (.fn n_impl_SetValid [] [])) [.t 11]⟩,
      ⟨some 13, none, .not (.t 12)⟩,
      ⟨some 14, none, .mv (.t 13)⟩,
      ⟨some 15, (some (14, false)), .mv (.t 0)⟩,
      ⟨some 16, (some (14, false)), .call (.k (.fn n_impl_feasible [] [])) [.t 15]⟩,
      ⟨some 17, (some (14, false)), .not (.t 16)⟩,
      ⟨some 18, none, .pick (.t 14) (.k (.b true)) (.t 17)⟩,
      ⟨some 19, none, .mv (.t 18)⟩,
      ⟨some 20, (some (19, false)), .mv (.t 0)⟩,
      ⟨some 21, (some (19, false)), .call (.k (.fn n_impl_hyper [] [])) [.t 20]⟩,
      ⟨some 22, (some (19, false)), .bin .gtr (.t 21) (.k (.i .i64 720))⟩,
      ⟨some 23, none, .pick (.t 19) (.k (.b true)) (.t 22)⟩])
    (.cond (.t 23) (.seq (.ops [⟨some 2, none, .mv (.k (.sn))⟩,
      ⟨some 3, none, .mv (.k (.b false))⟩])
    (.ret))
    (.skip)))
    (.seq (.ops [⟨some 24, none, .mv (.t 0)⟩,
      ⟨some 25, none, .call (.k (.fn n_impl_hyper [] [])) [.t 24]⟩,
      ⟨some 26, none, .call (.k (.fn n_impl_none [] [])) [.t 25]⟩,
      ⟨some 4, none, .mv (.t 26)⟩])
    (.join (.plan [0, 1, 3, 4] [⟨some 27, none, .mv (.t 0)⟩,
      ⟨some 28, none, .len (.t 27)⟩,
      ⟨some 30, none, .mv (.t 0)⟩,
      ⟨some 31, none, .len (.t 30)⟩]
      (.alt (.one 2 ⟨some 29, none, .msl ty_int 8 [.i .i64 0] (.t 28)⟩ [] [6]
        [⟨some 5, none, .mv (.t 29)⟩]
      (.one 5 ⟨some 32, none, .msl ty_int 8 [.i .i64 0] (.t 31)⟩ [] [7]
        [⟨some 6, none, .mv (.t 32)⟩]
      .fin)) (.one 5 ⟨some 32, none, .msl ty_int 8 [.i .i64 0] (.t 31)⟩ [] []
        []
      (.one 2 ⟨some 29, none, .msl ty_int 8 [.i .i64 0] (.t 28)⟩ [] [6, 7]
        [⟨some 5, none, .mv (.t 29)⟩,
        ⟨some 6, none, .mv (.t 32)⟩]
      .fin))))
    (.seq (.seq (.ops [⟨some 33, none, .mv (.t 4)⟩,
      ⟨some 34, none, .len (.t 33)⟩,
      ⟨some 35, none, .mv (.k (.i .i64 0))⟩])
    (.block 0 (.loop l1_impl_Table)))
    (.seq (.ops [⟨some 97, none, .mv (.t 4)⟩,
      ⟨some 2, none, .mv (.t 97)⟩,
      ⟨some 3, none, .mv (.k (.b true))⟩])
    (.ret))))))
theorem k_impl_Table : chkF Try.prog Try.f12 98 c_impl_Table [.t 2, .t 3] = true := by kernel_rfl
theorem call_impl_Table {args : List AV} {σ : List AB} {K : AV → List AB → Prop} (hn : args.length ≤ 98) (hw : wpC Try.prog σ.length 98 c_impl_Table (retP σ.length [.t 2, .t 3] K) ⟨initT 0 args, σ⟩) : CallWp Try.prog n_impl_Table args σ K := call_fn mixed Try.func12 k_impl_Table hn hw
def l0_spec_Table : LC := .seq (.seq (.ops [⟨some 33, none, .mv (.t 8)⟩,
      ⟨some 34, none, .mv (.t 0)⟩,
      ⟨some 35, none, .len (.t 34)⟩,
      ⟨some 36, none, .bin .lss (.t 33) (.t 35)⟩])
    (.cond (.t 36) (.skip)
    (.exit 2)))
    (.seq (.block 3 (.join (.seq (.ops [⟨some 39, none, .mv (.t 6)⟩,
      ⟨some 40, none, .mv (.t 0)⟩,
      ⟨some 41, none, .mv (.t 8)⟩,
      ⟨some 42, none, .ia 3 (.t 40) (.t 41)⟩,
      ⟨some 43, none, .fa 2 (.t 42)⟩,
      ⟨some 44, none, .ld (.t 43)⟩,
      ⟨some 45, none, .bin .rem (.t 39) (.t 44)⟩,
      ⟨some 46, none, .bin .eql (.t 45) (.k (.i .i64 0))⟩])
    (.cond (.t 46) (.ops [⟨some 47, none, .mv (.t 5)⟩,
      ⟨some 48, none, .mv (.t 8)⟩,
      ⟨some 49, none, .mv (.t 0)⟩,
      ⟨some 50, none, .mv (.t 8)⟩,
      ⟨some 51, none, .ia 3 (.t 49) (.t 50)⟩,
      ⟨some 52, none, .fa 0 (.t 51)⟩,
      ⟨some 53, none, .ld (.t 52)⟩,
      ⟨some 54, none, .ia 1 (.t 47) (.t 48)⟩,
      ⟨none, none, .st 1 (.t 54) (.t 53)⟩])
    (.skip)))
    (.seq (.ops [⟨some 55, none, .mv (.t 5)⟩,
      ⟨some 56, none, .mv (.t 8)⟩,
      ⟨some 57, none, .ia 1 (.t 55) (.t 56)⟩,
      ⟨some 58, none, .ld (.t 57)⟩,
      ⟨some 59, none, .bin .gtr (.t 58) (.k (.i .i64 0))⟩,
      ⟨some 60, none, .mv (.t 59)⟩,
      ⟨some 61, (some (60, true)), .mv (.t 7)⟩,
      ⟨some 62, (some (60, true)), .bin .lss (.t 61) (.k (.i .i64 0))⟩,
      ⟨some 63, (some (60, true)), .mv (.t 62)⟩,
      ⟨some 64, (some (63, false)), .mv (.t 0)⟩,
      ⟨some 65, (some (63, false)), .mv (.t 8)⟩,
      ⟨some 66, (some (63, false)), .mv (.t 6)⟩,
      ⟨some 67, (some (63, false)), .call (.k (.fn n_spec_l13Due [] [])) [.t 64, .t 65, .t 66]⟩,
      ⟨some 68, (some (63, false)), .mv (.t 0)⟩,
      ⟨some 69, (some (63, false)), .mv (.t 7)⟩,
      ⟨some 70, (some (63, false)), .mv (.t 6)⟩,
      ⟨some 71, (some (63, false)), .call (.k (.fn n_spec_l13Due [] [])) [.t 68, .t 69, .t 70]⟩,
      ⟨some 72, (some (63, false)), .bin .lss (.t 67) (.t 71)⟩,
      ⟨some 73, (some (60, true)), .pick (.t 63) (.k (.b true)) (.t 72)⟩,
      ⟨some 74, none, .pick (.t 60) (.t 73) (.k (.b false))⟩])
    (.cond (.t 74) (.ops [⟨some 75, none, .mv (.t 8)⟩,
      ⟨some 7, none, .mv (.t 75)⟩])
    (.skip)))))
    (.ops [⟨some 37, none, .mv (.t 8)⟩,
      ⟨some 38, none, .bin .add (.t 37) (.k (.i .i64 1))⟩,
      ⟨some 8, none, .mv (.t 38)⟩]))
def l1_spec_Table : LC := .seq (.seq (.ops [⟨some 27, none, .mv (.t 6)⟩,
      ⟨some 28, none, .mv (.t 0)⟩,
      ⟨some 29, none, .call (.k (.fn n_spec_l1Hyper [] [])) [.t 28]⟩,
      ⟨some 30, none, .bin .lss (.t 27) (.t 29)⟩])
    (.cond (.t 30) (.skip)
    (.exit 0)))
    (.seq (.block 1 (.seq (.ops [⟨some 7, none, .mv (.k (.i .i64 (-1)))⟩])
    (.seq (.seq (.ops [⟨some 8, none, .mv (.k (.i .i64 0))⟩])
    (.block 2 (.loop l0_spec_Table)))
    (.seq (.seq (.ops [⟨some 76, none, .mv (.t 7)⟩,
      ⟨some 77, none, .bin .geq (.t 76) (.k (.i .i64 0))⟩])
    (.cond (.t 77) (.ops [⟨some 78, none, .mv (.t 5)⟩,
      ⟨some 79, none, .mv (.t 7)⟩,
      ⟨some 80, none, .mv (.t 5)⟩,
      ⟨some 81, none, .mv (.t 7)⟩,
      ⟨some 82, none, .ia 1 (.t 80) (.t 81)⟩,
      ⟨some 83, none, .ld (.t 82)⟩,
      ⟨some 84, none, .bin .sub (.t 83) (.k (.i .i64 1))⟩,
      ⟨some 85, none, .ia 1 (.t 78) (.t 79)⟩,
      ⟨none, none, .st 1 (.t 85) (.t 84)⟩])
    (.skip)))
    (.ops [⟨some 86, none, .mv (.t 4)⟩,
      ⟨some 87, none, .mv (.t 7)⟩,
      ⟨some 88, none, .bsl ty_int [.i .i64 0] 1 [(0, 1, .t 87)]⟩,
      ⟨some 89, none, .app ty_int 1 8 (.t 86) (.t 88)⟩,
      ⟨some 4, none, .mv (.t 89)⟩])))))
    (.ops [⟨some 31, none, .mv (.t 6)⟩,
      ⟨some 32, none, .bin .add (.t 31) (.k (.i .i64 1))⟩,
      ⟨some 6, none, .mv (.t 32)⟩]))
def c_spec_Table : LC := .seq (.ops [⟨some 2, none, .mv (.k (.sn))⟩,
      ⟨some 3, none, .mv (.k (.b false))⟩])
    (.seq (.seq (.ops [⟨some 9, none, .mv (.t 0)⟩,
      ⟨some 10, none, .call (.k (.fn n_spec_SetValid [] [])) [.t 9]⟩,
      ⟨some 11, none, .not (.t 10)⟩,
      ⟨some 12, none, .mv (.t 11)⟩,
      ⟨some 13, (some (12, false)), .mv (.t 0)⟩,
      ⟨some 14, (some (12, false)), .call (.k (.fn n_spec_l1Hyper [] [])) [.t 13]⟩,
      ⟨some 15, (some (12, false)), .bin .gtr (.t 14) (.k (.i .i64 720))⟩,
      ⟨some 16, none, .pick (.t 12) (.k (.b true)) (.t 15)⟩,
      ⟨some 17, none, .mv (.t 16)⟩,
      ⟨some 18, (some (17, false)), .mv (.t 0)⟩,
      ⟨some 19, (some (17, false)), .call (.k (.fn n_spec_l2Edf [] [])) [.t 18]⟩,
      ⟨some 20, (some (17, false)), .not (.t 19)⟩,
      ⟨some 21, none, .pick (.t 17) (.k (.b true)) (.t 20)⟩])
    (.cond (.t 21) (.seq (.ops [⟨some 22, none, .bsl ty_int [.i .i64 0] 0 []⟩,
      ⟨some 2, none, .mv (.t 22)⟩,
      ⟨some 3, none, .mv (.k (.b false))⟩])
    (.ret))
    (.skip)))
    (.seq (.ops [⟨some 23, none, .bsl ty_int [.i .i64 0] 0 []⟩,
      ⟨some 4, none, .mv (.t 23)⟩])
    (.seq (.ops [⟨some 24, none, .mv (.t 0)⟩,
      ⟨some 25, none, .len (.t 24)⟩,
      ⟨some 26, none, .msl ty_int 8 [.i .i64 0] (.t 25)⟩,
      ⟨some 5, none, .mv (.t 26)⟩])
    (.seq (.seq (.ops [⟨some 6, none, .mv (.k (.i .i64 0))⟩])
    (.block 0 (.loop l1_spec_Table)))
    (.seq (.ops [⟨some 90, none, .mv (.t 4)⟩,
      ⟨some 2, none, .mv (.t 90)⟩,
      ⟨some 3, none, .mv (.k (.b true))⟩])
    (.ret))))))
theorem k_spec_Table : chkF Try.prog Try.f13 91 c_spec_Table [.t 2, .t 3] = true := by kernel_rfl
theorem call_spec_Table {args : List AV} {σ : List AB} {K : AV → List AB → Prop} (hn : args.length ≤ 91) (hw : wpC Try.prog σ.length 91 c_spec_Table (retP σ.length [.t 2, .t 3] K) ⟨initT 0 args, σ⟩) : CallWp Try.prog n_spec_Table args σ K := call_fn mixed Try.func13 k_spec_Table hn hw
def c_laws_alive : LC := .seq (.ops [⟨some 0, none, .mv (.k (.b false))⟩])
    (.seq (.ops [⟨some 1, none, .build [.i .i64 0, .i .i64 0, .i .i64 0] [(0, 1, .k (.i .i64 1)), (1, 1, .k (.i .i64 1)), (2, 1, .k (.i .i64 1))]⟩,
      ⟨some 2, none, .call (.k (.fn n_impl_TaskValid [] [])) [.t 1]⟩,
      ⟨some 0, none, .mv (.t 2)⟩])
    (.ret))
theorem k_laws_alive : chkF Try.prog Try.f17 3 c_laws_alive [.t 0] = true := by kernel_rfl
theorem call_laws_alive {args : List AV} {σ : List AB} {K : AV → List AB → Prop} (hn : args.length ≤ 3) (hw : wpC Try.prog σ.length 3 c_laws_alive (retP σ.length [.t 0] K) ⟨initT 0 args, σ⟩) : CallWp Try.prog n_laws_alive args σ K := call_fn mixed Try.func17 k_laws_alive hn hw
def l0_impl_Synchronous : LC := .seq (.ops [⟨some 25, none, .bin .lss (.t 24) (.t 23)⟩])
    (.seq (.cond (.t 25) (.skip)
    (.exit 2))
    (.seq (.block 3 (.seq (.ops [⟨some 26, none, .mv (.t 24)⟩,
      ⟨some 27, none, .ia 3 (.t 22) (.t 24)⟩,
      ⟨some 28, none, .ldn 3 (.t 27)⟩,
      ⟨some 8, none, .alloc ty_impl_Task [.i .i64 0, .i .i64 0, .i .i64 0]⟩,
      ⟨some 7, none, .mv (.t 26)⟩,
      ⟨none, none, .st 3 (.t 8) (.t 28)⟩])
    (.seq (.ops [⟨some 29, none, .mv (.t 6)⟩,
      ⟨some 30, none, .fa 2 (.t 8)⟩,
      ⟨some 31, none, .ld (.t 30)⟩,
      ⟨some 32, none, .bin .rem (.t 29) (.t 31)⟩,
      ⟨some 33, none, .bin .eql (.t 32) (.k (.i .i64 0))⟩,
      ⟨some 34, none, .mv (.t 33)⟩,
      ⟨some 35, (some (34, true)), .mv (.t 6)⟩,
      ⟨some 36, (some (34, true)), .fa 1 (.t 8)⟩,
      ⟨some 37, (some (34, true)), .ld (.t 36)⟩,
      ⟨some 38, (some (34, true)), .bin .add (.t 35) (.t 37)⟩,
      ⟨some 39, (some (34, true)), .mv (.t 1)⟩,
      ⟨some 40, (some (34, true)), .bin .leq (.t 38) (.t 39)⟩,
      ⟨some 41, none, .pick (.t 34) (.t 40) (.k (.b false))⟩,
      ⟨some 42, none, .mv (.t 41)⟩,
      ⟨some 43, (some (42, true)), .mv (.t 5)⟩,
      ⟨some 44, (some (42, true)), .len (.t 43)⟩,
      ⟨some 45, (some (42, true)), .bin .lss (.t 44) (.k (.i .i64 60))⟩,
      ⟨some 46, none, .pick (.t 42) (.t 45) (.k (.b false))⟩])
    (.cond (.t 46) (.ops [⟨some 47, none, .mv (.t 5)⟩,
      ⟨some 48, none, .mv (.t 7)⟩,
      ⟨some 49, none, .mv (.t 6)⟩,
      ⟨some 50, none, .mv (.t 6)⟩,
      ⟨some 51, none, .fa 1 (.t 8)⟩,
      ⟨some 52, none, .ld (.t 51)⟩,
      ⟨some 53, none, .bin .add (.t 50) (.t 52)⟩,
      ⟨some 54, none, .fa 0 (.t 8)⟩,
      ⟨some 55, none, .ld (.t 54)⟩,
      ⟨some 56, none, .build [.i .i64 0, .i .i64 0, .i .i64 0, .i .i64 0] [(0, 1, .t 48), (1, 1, .t 49), (2, 1, .t 53), (3, 1, .t 55)]⟩,
      ⟨some 57, none, .bsl ty_impl_Job [.i .i64 0, .i .i64 0, .i .i64 0, .i .i64 0] 1 [(0, 4, .t 56)]⟩,
      ⟨some 58, none, .app ty_impl_Job 4 32 (.t 47) (.t 57)⟩,
      ⟨some 5, none, .mv (.t 58)⟩])
    (.skip)))))
    (.ops [⟨some 59, none, .bin .add (.t 24) (.k (.i .i64 1))⟩,
      ⟨some 24, none, .mv (.t 59)⟩])))
def l1_impl_Synchronous : LC := .seq (.seq (.ops [⟨some 17, none, .mv (.t 6)⟩,
      ⟨some 18, none, .mv (.t 1)⟩,
      ⟨some 19, none, .bin .lss (.t 17) (.t 18)⟩])
    (.cond (.t 19) (.skip)
    (.exit 0)))
    (.seq (.block 1 (.seq (.ops [⟨some 22, none, .mv (.t 0)⟩,
      ⟨some 23, none, .len (.t 22)⟩,
      ⟨some 24, none, .mv (.k (.i .i64 0))⟩])
    (.block 2 (.loop l0_impl_Synchronous))))
    (.ops [⟨some 20, none, .mv (.t 6)⟩,
      ⟨some 21, none, .bin .add (.t 20) (.k (.i .i64 1))⟩,
      ⟨some 6, none, .mv (.t 21)⟩]))
def c_impl_Synchronous : LC := .seq (.ops [⟨some 4, none, .mv (.k (.sn))⟩])
    (.seq (.seq (.ops [⟨some 9, none, .mv (.t 0)⟩,
      ⟨some 10, none, .call (.k (.fn n_impl_SetValid [] [])) [.t 9]⟩,
      ⟨some 11, none, .not (.t 10)⟩,
      ⟨some 12, none, .mv (.t 11)⟩,
      ⟨some 13, (some (12, false)), .mv (.t 1)⟩,
      ⟨some 14, (some (12, false)), .call (.k (.fn n_impl_in [] [])) [.t 13, .k (.i .i64 0), .k (.i .i64 120)]⟩,
      ⟨some 15, (some (12, false)), .not (.t 14)⟩,
      ⟨some 16, none, .pick (.t 12) (.k (.b true)) (.t 15)⟩])
    (.cond (.t 16) (.seq (.ops [⟨some 4, none, .mv (.k (.sn))⟩])
    (.ret))
    (.skip)))
    (.seq (.ops [⟨some 5, none, .mv (.k (.sn))⟩])
    (.seq (.seq (.ops [⟨some 6, none, .mv (.k (.i .i64 0))⟩])
    (.block 0 (.loop l1_impl_Synchronous)))
    (.seq (.ops [⟨some 60, none, .mv (.t 5)⟩,
      ⟨some 61, none, .call (.k (.fn n_slices_Clip_impl_Job [] [])) [.t 60]⟩,
      ⟨some 4, none, .mv (.t 61)⟩])
    (.ret)))))
theorem k_impl_Synchronous : chkF Try.prog Try.f19 62 c_impl_Synchronous [.t 4] = true := by kernel_rfl
theorem call_impl_Synchronous {args : List AV} {σ : List AB} {K : AV → List AB → Prop} (hn : args.length ≤ 62) (hw : wpC Try.prog σ.length 62 c_impl_Synchronous (retP σ.length [.t 4] K) ⟨initT 0 args, σ⟩) : CallWp Try.prog n_impl_Synchronous args σ K := call_fn mixed Try.func19 k_impl_Synchronous hn hw
def c_impl_RunEdf : LC := .seq (.ops [⟨some 4, none, .alloc ty_impl_Schedule [.sn, .sn]⟩])
    (.seq (.seq (.ops [⟨some 5, none, .mv (.t 0)⟩,
      ⟨some 6, none, .mv (.t 1)⟩,
      ⟨some 7, none, .call (.k (.fn n_impl_JobsLegal [] [])) [.t 5, .t 6]⟩,
      ⟨some 8, none, .not (.t 7)⟩])
    (.cond (.t 8) (.seq (.ops [⟨some 9, none, .build [.sn, .sn] []⟩,
      ⟨none, none, .st 2 (.t 4) (.t 9)⟩])
    (.ret))
    (.skip)))
    (.seq (.ops [⟨some 10, none, .mv (.t 1)⟩,
      ⟨some 11, none, .call (.k (.fn n_impl_simulate [] [])) [.t 10, .k (.fn n_impl_edf [] [])]⟩,
      ⟨none, none, .st 2 (.t 4) (.t 11)⟩])
    (.ret)))
theorem k_impl_RunEdf : chkF Try.prog Try.f20 12 c_impl_RunEdf [.c 4 (some 2)] = true := by kernel_rfl
theorem call_impl_RunEdf {args : List AV} {σ : List AB} {K : AV → List AB → Prop} (hn : args.length ≤ 12) (hw : wpC Try.prog σ.length 12 c_impl_RunEdf (retP σ.length [.c 4 (some 2)] K) ⟨initT 0 args, σ⟩) : CallWp Try.prog n_impl_RunEdf args σ K := call_fn mixed Try.func20 k_impl_RunEdf hn hw
def l0_spec_SetValid : LC := .seq (.seq (.ops [⟨some 4, none, .mv (.t 3)⟩,
      ⟨some 5, none, .mv (.t 0)⟩,
      ⟨some 6, none, .len (.t 5)⟩,
      ⟨some 7, none, .bin .lss (.t 4) (.t 6)⟩])
    (.cond (.t 7) (.skip)
    (.exit 0)))
    (.seq (.block 1 (.seq (.ops [⟨some 10, none, .mv (.t 0)⟩,
      ⟨some 11, none, .mv (.t 3)⟩,
      ⟨some 12, none, .ia 3 (.t 10) (.t 11)⟩,
      ⟨some 13, none, .ldn 3 (.t 12)⟩,
      ⟨some 14, none, .call (.k (.fn n_spec_TaskValid [] [])) [.t 13]⟩,
      ⟨some 15, none, .not (.t 14)⟩])
    (.cond (.t 15) (.seq (.ops [⟨some 2, none, .mv (.k (.b false))⟩])
    (.ret))
    (.skip))))
    (.ops [⟨some 8, none, .mv (.t 3)⟩,
      ⟨some 9, none, .bin .add (.t 8) (.k (.i .i64 1))⟩,
      ⟨some 3, none, .mv (.t 9)⟩]))
def c_spec_SetValid : LC := .seq (.ops [⟨some 2, none, .mv (.k (.b false))⟩])
    (.seq (.seq (.ops [⟨some 3, none, .mv (.k (.i .i64 0))⟩])
    (.block 0 (.loop l0_spec_SetValid)))
    (.seq (.ops [⟨some 16, none, .mv (.t 0)⟩,
      ⟨some 17, none, .len (.t 16)⟩,
      ⟨some 18, none, .bin .leq (.t 17) (.k (.i .i64 5))⟩,
      ⟨some 2, none, .mv (.t 18)⟩])
    (.ret)))
theorem k_spec_SetValid : chkF Try.prog Try.f28 19 c_spec_SetValid [.t 2] = true := by kernel_rfl
theorem call_spec_SetValid {args : List AV} {σ : List AB} {K : AV → List AB → Prop} (hn : args.length ≤ 19) (hw : wpC Try.prog σ.length 19 c_spec_SetValid (retP σ.length [.t 2] K) ⟨initT 0 args, σ⟩) : CallWp Try.prog n_spec_SetValid args σ K := call_fn mixed Try.func28 k_spec_SetValid hn hw
def c_impl_SetValid : LC := .seq (.ops [⟨some 2, none, .mv (.k (.b false))⟩])
    (.seq (.ops [⟨some 3, none, .mv (.t 0)⟩,
      ⟨some 4, none, .len (.t 3)⟩,
      ⟨some 5, none, .bin .leq (.t 4) (.k (.i .i64 5))⟩,
      ⟨some 6, none, .mv (.t 5)⟩,
      ⟨some 7, (some (6, true)), .mv (.t 0)⟩,
      ⟨some 8, (some (6, true)), .call (.k (.fn n_slices_ContainsFunc_impl_Task [] [])) [.t 7, .k (.fn n_impl_SetValid_1 [] [])]⟩,
      ⟨some 9, (some (6, true)), .not (.t 8)⟩,
      ⟨some 10, none, .pick (.t 6) (.t 9) (.k (.b false))⟩,
      ⟨some 2, none, .mv (.t 10)⟩])
    (.ret))
theorem k_impl_SetValid : chkF Try.prog Try.f31 11 c_impl_SetValid [.t 2] = true := by kernel_rfl
theorem call_impl_SetValid {args : List AV} {σ : List AB} {K : AV → List AB → Prop} (hn : args.length ≤ 11) (hw : wpC Try.prog σ.length 11 c_impl_SetValid (retP σ.length [.t 2] K) ⟨initT 0 args, σ⟩) : CallWp Try.prog n_impl_SetValid args σ K := call_fn mixed Try.func31 k_impl_SetValid hn hw
def l0_spec_l20Set : LC := .seq (.seq (.ops [⟨some 25, none, .mv (.t 5)⟩,
      ⟨some 26, none, .len (.t 25)⟩,
      ⟨some 27, none, .bin .leq (.t 26) (.k (.i .i64 5))⟩])
    (.cond (.t 27) (.skip)
    (.exit 2)))
    (.block 3 (.ops [⟨some 28, none, .mv (.t 5)⟩,
      ⟨some 29, none, .mv (.t 0)⟩,
      ⟨some 30, none, .call (.k (.fn n_spec_l20Task [] [])) [.t 29, .k (.i .i64 0)]⟩,
      ⟨some 31, none, .bsl ty_impl_Task [.i .i64 0, .i .i64 0, .i .i64 0] 1 [(0, 3, .t 30)]⟩,
      ⟨some 32, none, .app ty_impl_Task 3 24 (.t 28) (.t 31)⟩,
      ⟨some 5, none, .mv (.t 32)⟩]))
def l1_spec_l20Set : LC := .seq (.seq (.ops [⟨some 10, none, .mv (.t 6)⟩,
      ⟨some 11, none, .bin .gtr (.t 10) (.k (.i .i64 0))⟩])
    (.cond (.t 11) (.skip)
    (.exit 0)))
    (.seq (.block 1 (.ops [⟨some 14, none, .mv (.t 5)⟩,
      ⟨some 15, none, .mv (.t 0)⟩,
      ⟨some 16, none, .call (.k (.fn n_spec_l20Task [] [])) [.t 15, .k (.i .i64 0)]⟩,
      ⟨some 17, none, .bsl ty_impl_Task [.i .i64 0, .i .i64 0, .i .i64 0] 1 [(0, 3, .t 16)]⟩,
      ⟨some 18, none, .app ty_impl_Task 3 24 (.t 14) (.t 17)⟩,
      ⟨some 5, none, .mv (.t 18)⟩]))
    (.ops [⟨some 12, none, .mv (.t 6)⟩,
      ⟨some 13, none, .bin .sub (.t 12) (.k (.i .i64 1))⟩,
      ⟨some 6, none, .mv (.t 13)⟩]))
def c_spec_l20Set : LC := .seq (.ops [⟨some 4, none, .mv (.k (.sn))⟩])
    (.seq (.ops [⟨some 7, none, .bsl ty_impl_Task [.i .i64 0, .i .i64 0, .i .i64 0] 0 []⟩,
      ⟨some 5, none, .mv (.t 7)⟩])
    (.seq (.seq (.ops [⟨some 8, none, .mv (.t 0)⟩,
      ⟨some 9, none, .call (.k (.fn n_spec_l20Rd_pick [] [])) [.t 8, .k (.i .i64 6)]⟩,
      ⟨some 6, none, .mv (.t 9)⟩])
    (.block 0 (.loop l1_spec_l20Set)))
    (.join (.seq (.ops [⟨some 19, none, .mv (.t 0)⟩,
      ⟨some 20, none, .mv (.t 1)⟩,
      ⟨some 21, none, .call (.k (.fn n_spec_l20Rd_odd [] [])) [.t 19, .t 20]⟩])
    (.cond (.t 21) (.seq (.seq (.ops [⟨some 22, none, .mv (.t 0)⟩,
      ⟨some 23, none, .call (.k (.fn n_spec_l20Rd_pick [] [])) [.t 22, .k (.i .i64 3)]⟩,
      ⟨some 24, none, .bin .eql (.t 23) (.k (.i .i64 0))⟩])
    (.cond (.t 24) (.block 2 (.loop l0_spec_l20Set))
    (.skip)))
    (.ops [⟨some 33, none, .mv (.t 5)⟩,
      ⟨some 34, none, .mv (.t 0)⟩,
      ⟨some 35, none, .call (.k (.fn n_spec_l20Task [] [])) [.t 34, .k (.i .i64 2)]⟩,
      ⟨some 36, none, .bsl ty_impl_Task [.i .i64 0, .i .i64 0, .i .i64 0] 1 [(0, 3, .t 35)]⟩,
      ⟨some 37, none, .app ty_impl_Task 3 24 (.t 33) (.t 36)⟩,
      ⟨some 5, none, .mv (.t 37)⟩]))
    (.skip)))
    (.seq (.ops [⟨some 38, none, .mv (.t 5)⟩,
      ⟨some 4, none, .mv (.t 38)⟩])
    (.ret)))))
theorem k_spec_l20Set : chkF Try.prog Try.f46 39 c_spec_l20Set [.t 4] = true := by kernel_rfl
theorem call_spec_l20Set {args : List AV} {σ : List AB} {K : AV → List AB → Prop} (hn : args.length ≤ 39) (hw : wpC Try.prog σ.length 39 c_spec_l20Set (retP σ.length [.t 4] K) ⟨initT 0 args, σ⟩) : CallWp Try.prog n_spec_l20Set args σ K := call_fn mixed Try.func46 k_spec_l20Set hn hw
def c_spec_l20Open : LC := .seq (.ops [⟨some 2, none, .mv (.k (.pn))⟩])
    (.join (.seq (.ops [⟨some 3, none, .mv (.t 0)⟩,
      ⟨some 4, none, .len (.t 3)⟩,
      ⟨some 5, none, .bin .gtr (.t 4) (.k (.i .i64 2000))⟩])
    (.cond (.t 5) (.ops [⟨some 6, none, .mv (.t 0)⟩,
      ⟨some 7, none, .slc 1 (.t 6) none (some (.k (.i .i64 2000))) none⟩,
      ⟨some 0, none, .mv (.t 7)⟩])
    (.skip)))
    (.seq (.ops [⟨some 8, none, .mv (.t 0)⟩,
      ⟨some 9, none, .build [.sn, .i .i64 0] [(0, 1, .t 8)]⟩,
      ⟨some 10, none, .box ty_spec_l20Rd (.t 9)⟩,
      ⟨some 2, none, .mv (.t 10)⟩])
    (.ret)))
theorem k_spec_l20Open : chkF Try.prog Try.f47 11 c_spec_l20Open [.t 2] = true := by kernel_rfl
theorem call_spec_l20Open {args : List AV} {σ : List AB} {K : AV → List AB → Prop} (hn : args.length ≤ 11) (hw : wpC Try.prog σ.length 11 c_spec_l20Open (retP σ.length [.t 2] K) ⟨initT 0 args, σ⟩) : CallWp Try.prog n_spec_l20Open args σ K := call_fn mixed Try.func47 k_spec_l20Open hn hw
def c_impl_feasible : LC := .seq (.ops [⟨some 2, none, .mv (.k (.b false))⟩])
    (.seq (.ops [⟨some 3, none, .mv (.t 0)⟩,
      ⟨some 4, none, .call (.k (.fn n_impl_FirstOverload [] [])) [.t 3]⟩,
      ⟨some 5, none, .bin .lss (.t 4) (.k (.i .i64 0))⟩,
      ⟨some 2, none, .mv (.t 5)⟩])
    (.ret))
theorem k_impl_feasible : chkF Try.prog Try.f48 6 c_impl_feasible [.t 2] = true := by kernel_rfl
theorem call_impl_feasible {args : List AV} {σ : List AB} {K : AV → List AB → Prop} (hn : args.length ≤ 6) (hw : wpC Try.prog σ.length 6 c_impl_feasible (retP σ.length [.t 2] K) ⟨initT 0 args, σ⟩) : CallWp Try.prog n_impl_feasible args σ K := call_fn mixed Try.func48 k_impl_feasible hn hw
def l0_impl_hyper : LC := .seq (.ops [⟨some 9, none, .bin .lss (.t 8) (.t 7)⟩])
    (.seq (.cond (.t 9) (.skip)
    (.exit 0))
    (.seq (.block 1 (.seq (.ops [⟨some 10, none, .ia 3 (.t 6) (.t 8)⟩,
      ⟨some 11, none, .ldn 3 (.t 10)⟩,
      ⟨some 5, none, .alloc ty_impl_Task [.i .i64 0, .i .i64 0, .i .i64 0]⟩,
      ⟨none, none, .st 3 (.t 5) (.t 11)⟩])
    (.ops [⟨some 12, none, .mv (.t 3)⟩,
      ⟨some 13, none, .fa 2 (.t 5)⟩,
      ⟨some 14, none, .ld (.t 13)⟩,
      ⟨some 15, none, .call (.k (.fn n_impl_lcm [] [])) [.t 12, .t 14]⟩,
      ⟨some 3, none, .mv (.t 15)⟩])))
    (.ops [⟨some 16, none, .bin .add (.t 8) (.k (.i .i64 1))⟩,
      ⟨some 8, none, .mv (.t 16)⟩])))
def c_impl_hyper : LC := .seq (.ops [⟨some 2, none, .mv (.k (.i .i64 0))⟩])
    (.seq (.ops [⟨some 3, none, .mv (.k (.i .i64 1))⟩])
    (.seq (.seq (.ops [⟨some 6, none, .mv (.t 0)⟩,
      ⟨some 7, none, .len (.t 6)⟩,
      ⟨some 8, none, .mv (.k (.i .i64 0))⟩])
    (.block 0 (.loop l0_impl_hyper)))
    (.seq (.ops [⟨some 17, none, .mv (.t 3)⟩,
      ⟨some 2, none, .mv (.t 17)⟩])
    (.ret))))
theorem k_impl_hyper : chkF Try.prog Try.f49 18 c_impl_hyper [.t 2] = true := by kernel_rfl
theorem call_impl_hyper {args : List AV} {σ : List AB} {K : AV → List AB → Prop} (hn : args.length ≤ 18) (hw : wpC Try.prog σ.length 18 c_impl_hyper (retP σ.length [.t 2] K) ⟨initT 0 args, σ⟩) : CallWp Try.prog n_impl_hyper args σ K := call_fn mixed Try.func49 k_impl_hyper hn hw
def c_impl_none : LC := .seq (.ops [⟨some 2, none, .mv (.k (.sn))⟩])
    (.seq (.ops [⟨some 3, none, .bsl ty_int [.i .i64 0] 1 [(0, 1, .k (.i .i64 (-1)))]⟩,
      ⟨some 4, none, .mv (.t 0)⟩,
      ⟨some 5, none, .call (.k (.fn n_slices_Repeat_int [] [])) [.t 3, .t 4]⟩,
      ⟨some 2, none, .mv (.t 5)⟩])
    (.ret))
theorem k_impl_none : chkF Try.prog Try.f50 6 c_impl_none [.t 2] = true := by kernel_rfl
theorem call_impl_none {args : List AV} {σ : List AB} {K : AV → List AB → Prop} (hn : args.length ≤ 6) (hw : wpC Try.prog σ.length 6 c_impl_none (retP σ.length [.t 2] K) ⟨initT 0 args, σ⟩) : CallWp Try.prog n_impl_none args σ K := call_fn mixed Try.func50 k_impl_none hn hw
def l0_spec_l1Hyper : LC := .seq (.seq (.ops [⟨some 5, none, .mv (.t 4)⟩,
      ⟨some 6, none, .mv (.t 0)⟩,
      ⟨some 7, none, .len (.t 6)⟩,
      ⟨some 8, none, .bin .lss (.t 5) (.t 7)⟩])
    (.cond (.t 8) (.skip)
    (.exit 0)))
    (.seq (.block 1 (.draw 15 [⟨some 11, none, .mv (.t 3)⟩,
      ⟨some 12, none, .mv (.t 3)⟩,
      ⟨some 13, none, .mv (.t 0)⟩,
      ⟨some 14, none, .mv (.t 4)⟩,
      ⟨some 15, none, .ia 3 (.t 13) (.t 14)⟩,
      ⟨some 16, none, .fa 2 (.t 15)⟩,
      ⟨some 17, none, .ld (.t 16)⟩,
      ⟨some 18, none, .call (.k (.fn n_spec_l1Gcd [] [])) [.t 12, .t 17]⟩,
      ⟨some 19, none, .bin .quo (.t 11) (.t 18)⟩,
      ⟨some 20, none, .mv (.t 0)⟩,
      ⟨some 21, none, .mv (.t 4)⟩,
      ⟨some 22, none, .ia 3 (.t 20) (.t 21)⟩,
      ⟨some 23, none, .fa 2 (.t 22)⟩,
      ⟨some 24, none, .ld (.t 23)⟩,
      ⟨some 25, none, .bin .mul (.t 19) (.t 24)⟩,
      ⟨some 3, none, .mv (.t 25)⟩]))
    (.ops [⟨some 9, none, .mv (.t 4)⟩,
      ⟨some 10, none, .bin .add (.t 9) (.k (.i .i64 1))⟩,
      ⟨some 4, none, .mv (.t 10)⟩]))
def c_spec_l1Hyper : LC := .seq (.ops [⟨some 2, none, .mv (.k (.i .i64 0))⟩])
    (.seq (.ops [⟨some 3, none, .mv (.k (.i .i64 1))⟩])
    (.seq (.seq (.ops [⟨some 4, none, .mv (.k (.i .i64 0))⟩])
    (.block 0 (.loop l0_spec_l1Hyper)))
    (.seq (.ops [⟨some 26, none, .mv (.t 3)⟩,
      ⟨some 2, none, .mv (.t 26)⟩])
    (.ret))))
theorem k_spec_l1Hyper : chkF Try.prog Try.f51 27 c_spec_l1Hyper [.t 2] = true := by kernel_rfl
theorem call_spec_l1Hyper {args : List AV} {σ : List AB} {K : AV → List AB → Prop} (hn : args.length ≤ 27) (hw : wpC Try.prog σ.length 27 c_spec_l1Hyper (retP σ.length [.t 2] K) ⟨initT 0 args, σ⟩) : CallWp Try.prog n_spec_l1Hyper args σ K := call_fn mixed Try.func51 k_spec_l1Hyper hn hw
def c_spec_l2Edf : LC := .seq (.ops [⟨some 2, none, .mv (.k (.b false))⟩])
    (.seq (.ops [⟨some 3, none, .mv (.t 0)⟩,
      ⟨some 4, none, .mv (.t 0)⟩,
      ⟨some 5, none, .call (.k (.fn n_spec_l1Hyper [] [])) [.t 4]⟩,
      ⟨some 6, none, .call (.k (.fn n_spec_l2Overload [] [])) [.t 3, .t 5]⟩,
      ⟨some 7, none, .bin .eql (.t 6) (.k (.i .i64 (-1)))⟩,
      ⟨some 2, none, .mv (.t 7)⟩])
    (.ret))
theorem k_spec_l2Edf : chkF Try.prog Try.f52 8 c_spec_l2Edf [.t 2] = true := by kernel_rfl
theorem call_spec_l2Edf {args : List AV} {σ : List AB} {K : AV → List AB → Prop} (hn : args.length ≤ 8) (hw : wpC Try.prog σ.length 8 c_spec_l2Edf (retP σ.length [.t 2] K) ⟨initT 0 args, σ⟩) : CallWp Try.prog n_spec_l2Edf args σ K := call_fn mixed Try.func52 k_spec_l2Edf hn hw
def c_spec_l13Due : LC := .seq (.ops [⟨some 6, none, .mv (.k (.i .i64 0))⟩])
    (.seq (.draw 19 [⟨some 7, none, .mv (.t 2)⟩,
      ⟨some 8, none, .mv (.t 0)⟩,
      ⟨some 9, none, .mv (.t 1)⟩,
      ⟨some 10, none, .ia 3 (.t 8) (.t 9)⟩,
      ⟨some 11, none, .fa 2 (.t 10)⟩,
      ⟨some 12, none, .ld (.t 11)⟩,
      ⟨some 13, none, .bin .quo (.t 7) (.t 12)⟩,
      ⟨some 14, none, .mv (.t 0)⟩,
      ⟨some 15, none, .mv (.t 1)⟩,
      ⟨some 16, none, .ia 3 (.t 14) (.t 15)⟩,
      ⟨some 17, none, .fa 2 (.t 16)⟩,
      ⟨some 18, none, .ld (.t 17)⟩,
      ⟨some 19, none, .bin .mul (.t 13) (.t 18)⟩,
      ⟨some 20, none, .mv (.t 0)⟩,
      ⟨some 21, none, .mv (.t 1)⟩,
      ⟨some 22, none, .ia 3 (.t 20) (.t 21)⟩,
      ⟨some 23, none, .fa 1 (.t 22)⟩,
      ⟨some 24, none, .ld (.t 23)⟩,
      ⟨some 25, none, .bin .add (.t 19) (.t 24)⟩,
      ⟨some 6, none, .mv (.t 25)⟩])
    (.ret))
theorem k_spec_l13Due : chkF Try.prog Try.f53 26 c_spec_l13Due [.t 6] = true := by kernel_rfl
theorem call_spec_l13Due {args : List AV} {σ : List AB} {K : AV → List AB → Prop} (hn : args.length ≤ 26) (hw : wpC Try.prog σ.length 26 c_spec_l13Due (retP σ.length [.t 6] K) ⟨initT 0 args, σ⟩) : CallWp Try.prog n_spec_l13Due args σ K := call_fn mixed Try.func53 k_spec_l13Due hn hw
def c_impl_TaskValid : LC := .seq (.ops [⟨some 1, none, .box ty_impl_Task (.t 0)⟩,
      ⟨some 2, none, .mv (.k (.b false))⟩])
    (.seq (.ops [⟨some 3, none, .fa 0 (.t 1)⟩,
      ⟨some 4, none, .ld (.t 3)⟩,
      ⟨some 5, none, .call (.k (.fn n_impl_in [] [])) [.t 4, .k (.i .i64 1), .k (.i .i64 8)]⟩,
      ⟨some 6, none, .mv (.t 5)⟩,
      ⟨some 7, (some (6, true)), .fa 1 (.t 1)⟩,
      ⟨some 8, (some (6, true)), .ld (.t 7)⟩,
      ⟨some 9, (some (6, true)), .fa 0 (.t 1)⟩,
      ⟨some 10, (some (6, true)), .ld (.t 9)⟩,
      ⟨some 11, (some (6, true)), .fa 2 (.t 1)⟩,
      ⟨some 12, (some (6, true)), .ld (.t 11)⟩,
      ⟨some 13, (some (6, true)), .call (.k (.fn n_impl_in [] [])) [.t 8, .t 10, .t 12]⟩,
      ⟨some 14, none, .pick (.t 6) (.t 13) (.k (.b false))⟩,
      ⟨some 15, none, .mv (.t 14)⟩,
      ⟨some 16, (some (15, true)), .fa 2 (.t 1)⟩,
      ⟨some 17, (some (15, true)), .ld (.t 16)⟩,
      ⟨some 18, (some (15, true)), .bin .leq (.t 17) (.k (.i .i64 12))⟩,
      ⟨some 19, none, .pick (.t 15) (.t 18) (.k (.b false))⟩,
      ⟨some 2, none, .mv (.t 19)⟩])
    (.ret))
theorem k_impl_TaskValid : chkF Try.prog Try.f54 20 c_impl_TaskValid [.t 2] = true := by kernel_rfl
theorem call_impl_TaskValid {args : List AV} {σ : List AB} {K : AV → List AB → Prop} (hn : args.length ≤ 20) (hw : wpC Try.prog σ.length 20 c_impl_TaskValid (retP σ.length [.t 2] K) ⟨initT 0 args, σ⟩) : CallWp Try.prog n_impl_TaskValid args σ K := call_fn mixed Try.func54 k_impl_TaskValid hn hw
def c_impl_in : LC := .seq (.ops [⟨some 6, none, .mv (.k (.b false))⟩])
    (.seq (.ops [⟨some 7, none, .mv (.t 0)⟩,
      ⟨some 8, none, .mv (.t 1)⟩,
      ⟨some 9, none, .bin .geq (.t 7) (.t 8)⟩,
      ⟨some 10, none, .mv (.t 9)⟩,
      ⟨some 11, (some (10, true)), .mv (.t 0)⟩,
      ⟨some 12, (some (10, true)), .mv (.t 2)⟩,
      ⟨some 13, (some (10, true)), .bin .leq (.t 11) (.t 12)⟩,
      ⟨some 14, none, .pick (.t 10) (.t 13) (.k (.b false))⟩,
      ⟨some 6, none, .mv (.t 14)⟩])
    (.ret))
theorem k_impl_in : chkF Try.prog Try.f55 15 c_impl_in [.t 6] = true := by kernel_rfl
theorem call_impl_in {args : List AV} {σ : List AB} {K : AV → List AB → Prop} (hn : args.length ≤ 15) (hw : wpC Try.prog σ.length 15 c_impl_in (retP σ.length [.t 6] K) ⟨initT 0 args, σ⟩) : CallWp Try.prog n_impl_in args σ K := call_fn mixed Try.func55 k_impl_in hn hw
def c_slices_Clip_impl_Job : LC := .seq (.ops [⟨some 2, none, .mv (.k (.sn))⟩])
    (.seq (.ops [⟨some 3, none, .mv (.t 0)⟩,
      ⟨some 4, none, .mv (.t 0)⟩,
      ⟨some 5, none, .len (.t 4)⟩,
      ⟨some 6, none, .mv (.t 0)⟩,
      ⟨some 7, none, .len (.t 6)⟩,
      ⟨some 8, none, .slc 4 (.t 3) none (some (.t 5)) (some (.t 7))⟩,
      ⟨some 2, none, .mv (.t 8)⟩])
    (.ret))
theorem k_slices_Clip_impl_Job : chkF Try.prog Try.f56 9 c_slices_Clip_impl_Job [.t 2] = true := by kernel_rfl
theorem call_slices_Clip_impl_Job {args : List AV} {σ : List AB} {K : AV → List AB → Prop} (hn : args.length ≤ 9) (hw : wpC Try.prog σ.length 9 c_slices_Clip_impl_Job (retP σ.length [.t 2] K) ⟨initT 0 args, σ⟩) : CallWp Try.prog n_slices_Clip_impl_Job args σ K := call_fn mixed Try.func56 k_slices_Clip_impl_Job hn hw
def c_impl_JobsLegal : LC := .seq (.ops [⟨some 2, none, .box ty_sl_impl_Task (.t 0)⟩,
      ⟨some 4, none, .mv (.k (.b false))⟩])
    (.seq (.ops [⟨some 5, none, .ld (.t 2)⟩,
      ⟨some 6, none, .call (.k (.fn n_impl_SetValid [] [])) [.t 5]⟩,
      ⟨some 7, none, .mv (.t 6)⟩,
      ⟨some 8, (some (7, true)), .mv (.t 1)⟩,
      ⟨some 9, (some (7, true)), .ld (.t 2)⟩,
      ⟨some 10, (some (7, true)), .len (.t 9)⟩,
      ⟨some 11, (some (7, true)), .mkf n_impl_JobsLegal_1 [] [.t 2]⟩,
      ⟨some 12, (some (7, true)), .call (.k (.fn n_impl_ordered [] [])) [.t 8, .t 10, .t 11]⟩,
      ⟨some 13, none, .pick (.t 7) (.t 12) (.k (.b false))⟩,
      ⟨some 14, none, .mv (.t 13)⟩,
      ⟨some 15, (some (14, true)), .mv (.t 1)⟩,
      ⟨some 16, (some (14, true)), .mkf n_impl_JobsLegal_2 [] [.t 2]⟩,
      ⟨some 17, (some (14, true)), .call (.k (.fn n_impl_spaced [] [])) [.t 15, .k (.fn n_impl_release [] []), .t 16]⟩,
      ⟨some 18, none, .pick (.t 14) (.t 17) (.k (.b false))⟩,
      ⟨some 19, none, .mv (.t 18)⟩,
      ⟨some 20, (some (19, true)), .mv (.t 1)⟩,
      ⟨some 21, (some (19, true)), .mkf n_impl_JobsLegal_3 [] [.t 2]⟩,
      ⟨some 22, (some (19, true)), .call (.k (.fn n_slices_ContainsFunc_impl_Job [] [])) [.t 20, .t 21]⟩,
      ⟨some 23, (some (19, true)), .not (.t 22)⟩,
      ⟨some 24, none, .pick (.t 19) (.t 23) (.k (.b false))⟩,
      ⟨some 4, none, .mv (.t 24)⟩])
    (.ret))
theorem k_impl_JobsLegal : chkF Try.prog Try.f57 25 c_impl_JobsLegal [.t 4] = true := by kernel_rfl
theorem call_impl_JobsLegal {args : List AV} {σ : List AB} {K : AV → List AB → Prop} (hn : args.length ≤ 25) (hw : wpC Try.prog σ.length 25 c_impl_JobsLegal (retP σ.length [.t 4] K) ⟨initT 0 args, σ⟩) : CallWp Try.prog n_impl_JobsLegal args σ K := call_fn mixed Try.func57 k_impl_JobsLegal hn hw
def l0_impl_simulate : LC := .seq (.seq (.ops [⟨some 15, none, .mv (.t 5)⟩,
      ⟨some 16, none, .nilc (.t 15)⟩,
      ⟨some 17, none, .fa 2 (.t 16)⟩,
      ⟨some 18, none, .ld (.t 17)⟩,
      ⟨some 19, none, .bin .lss (.t 18) (.k (.i .i64 120))⟩])
    (.cond (.t 19) (.skip)
    (.exit 0)))
    (.seq (.block 1 (.seq (.ops [⟨some 27, none, .mv (.t 1)⟩,
      ⟨some 28, none, .mv (.t 5)⟩,
      ⟨some 29, none, .call (.t 27) [.t 28]⟩,
      ⟨some 7, none, .mv (.t 29)⟩])
    (.seq (.draw 7 [⟨some 30, none, .fa 0 (.t 6)⟩,
      ⟨some 31, none, .ld (.t 30)⟩,
      ⟨some 32, none, .mv (.t 5)⟩,
      ⟨some 33, none, .nilc (.t 32)⟩,
      ⟨some 34, none, .fa 2 (.t 33)⟩,
      ⟨some 35, none, .ld (.t 34)⟩,
      ⟨some 36, none, .mv (.t 7)⟩,
      ⟨some 37, none, .ia 1 (.t 31) (.t 35)⟩,
      ⟨none, none, .st 1 (.t 37) (.t 36)⟩])
    (.seq (.seq (.ops [⟨some 38, none, .mv (.t 7)⟩,
      ⟨some 39, none, .bin .lss (.t 38) (.k (.i .i64 0))⟩])
    (.cond (.t 39) (.exit 1)
    (.skip)))
    (.seq (.ops [⟨some 40, none, .mv (.t 5)⟩,
      ⟨some 41, none, .nilc (.t 40)⟩,
      ⟨some 42, none, .fa 1 (.t 41)⟩,
      ⟨some 43, none, .ld (.t 42)⟩,
      ⟨some 44, none, .mv (.t 7)⟩,
      ⟨some 45, none, .ia 1 (.t 43) (.t 44)⟩,
      ⟨some 46, none, .ld (.t 45)⟩,
      ⟨some 47, none, .bin .add (.t 46) (.k (.i .i64 1))⟩,
      ⟨some 48, none, .ia 1 (.t 43) (.t 44)⟩,
      ⟨none, none, .st 1 (.t 48) (.t 47)⟩])
    (.seq (.draw 13 [⟨some 49, none, .mv (.t 5)⟩,
      ⟨some 50, none, .nilc (.t 49)⟩,
      ⟨some 51, none, .fa 1 (.t 50)⟩,
      ⟨some 52, none, .ld (.t 51)⟩,
      ⟨some 53, none, .mv (.t 7)⟩,
      ⟨some 54, none, .ia 1 (.t 52) (.t 53)⟩,
      ⟨some 55, none, .ld (.t 54)⟩,
      ⟨some 56, none, .mv (.t 0)⟩,
      ⟨some 57, none, .mv (.t 7)⟩,
      ⟨some 58, none, .ia 4 (.t 56) (.t 57)⟩,
      ⟨some 59, none, .fa 3 (.t 58)⟩,
      ⟨some 60, none, .ld (.t 59)⟩,
      ⟨some 61, none, .bin .eql (.t 55) (.t 60)⟩])
    (.cond (.t 61) (.draw 8 [⟨some 62, none, .fa 1 (.t 6)⟩,
      ⟨some 63, none, .ld (.t 62)⟩,
      ⟨some 64, none, .mv (.t 7)⟩,
      ⟨some 65, none, .mv (.t 5)⟩,
      ⟨some 66, none, .nilc (.t 65)⟩,
      ⟨some 67, none, .fa 2 (.t 66)⟩,
      ⟨some 68, none, .ld (.t 67)⟩,
      ⟨some 69, none, .bin .add (.t 68) (.k (.i .i64 1))⟩,
      ⟨some 70, none, .ia 1 (.t 63) (.t 64)⟩,
      ⟨none, none, .st 1 (.t 70) (.t 69)⟩])
    (.skip))))))))
    (.ops [⟨some 20, none, .mv (.t 5)⟩,
      ⟨some 21, none, .nilc (.t 20)⟩,
      ⟨some 22, none, .fa 2 (.t 21)⟩,
      ⟨some 23, none, .ld (.t 22)⟩,
      ⟨some 24, none, .bin .add (.t 23) (.k (.i .i64 1))⟩,
      ⟨some 25, none, .nilc (.t 20)⟩,
      ⟨some 26, none, .fa 2 (.t 25)⟩,
      ⟨none, none, .st 1 (.t 26) (.t 24)⟩]))
def c_impl_simulate : LC := .seq (.ops [⟨some 4, none, .alloc ty_impl_Schedule [.sn, .sn]⟩])
    (.seq (.ops [⟨some 8, none, .mv (.t 0)⟩,
      ⟨some 9, none, .call (.k (.fn n_impl_newMachine [] [])) [.t 8]⟩,
      ⟨some 5, none, .mv (.t 9)⟩])
    (.seq (.ops [⟨some 10, none, .call (.k (.fn n_impl_none [] [])) [.k (.i .i64 120)]⟩,
      ⟨some 11, none, .mv (.t 0)⟩,
      ⟨some 12, none, .len (.t 11)⟩,
      ⟨some 13, none, .call (.k (.fn n_impl_none [] [])) [.t 12]⟩,
      ⟨some 14, none, .build [.sn, .sn] [(0, 1, .t 10), (1, 1, .t 13)]⟩,
      ⟨some 6, none, .alloc ty_impl_Schedule [.sn, .sn]⟩,
      ⟨none, none, .st 2 (.t 6) (.t 14)⟩])
    (.seq (.block 0 (.loop l0_impl_simulate))
    (.seq (.ops [⟨some 71, none, .ldn 2 (.t 6)⟩,
      ⟨none, none, .st 2 (.t 4) (.t 71)⟩])
    (.ret)))))
theorem k_impl_simulate : chkF Try.prog Try.f58 72 c_impl_simulate [.c 4 (some 2)] = true := by kernel_rfl
theorem callC_impl_simulate {args : List AV} {σ : List AB} {K : AV → List AB → Prop} (hn : args.length ≤ 72) (hw : Closed σ → args.all (below1 σ.length) = true → wpC Try.prog σ.length 72 c_impl_simulate (retP σ.length [.c 4 (some 2)] K) ⟨initT 0 args, σ⟩) : CallWp Try.prog n_impl_simulate args σ K := call_fnC mixed Try.func58 k_impl_simulate hn hw
def c_impl_edf : LC := .seq (.ops [⟨some 2, none, .mv (.k (.i .i64 0))⟩])
    (.seq (.ops [⟨some 3, none, .mv (.t 0)⟩,
      ⟨some 4, none, .mv (.t 0)⟩,
      ⟨some 5, none, .mkf n_impl_machine_deadline [.t 4] []⟩,
      ⟨some 6, none, .mv (.t 0)⟩,
      ⟨some 7, none, .mkf n_impl_machine_any [.t 6] []⟩,
      ⟨some 8, none, .call (.k (.fn n_impl_machine_best [] [])) [.t 3, .t 5, .t 7]⟩,
      ⟨some 2, none, .mv (.t 8)⟩])
    (.ret))
theorem k_impl_edf : chkF Try.prog Try.f59 9 c_impl_edf [.t 2] = true := by kernel_rfl
theorem call_impl_edf {args : List AV} {σ : List AB} {K : AV → List AB → Prop} (hn : args.length ≤ 9) (hw : wpC Try.prog σ.length 9 c_impl_edf (retP σ.length [.t 2] K) ⟨initT 0 args, σ⟩) : CallWp Try.prog n_impl_edf args σ K := call_fn mixed Try.func59 k_impl_edf hn hw
def c_spec_l1In : LC := .seq (.ops [⟨some 6, none, .mv (.k (.b false))⟩])
    (.seq (.ops [⟨some 7, none, .mv (.t 0)⟩,
      ⟨some 8, none, .mv (.t 1)⟩,
      ⟨some 9, none, .bin .geq (.t 7) (.t 8)⟩,
      ⟨some 10, none, .mv (.t 9)⟩,
      ⟨some 11, (some (10, true)), .mv (.t 0)⟩,
      ⟨some 12, (some (10, true)), .mv (.t 2)⟩,
      ⟨some 13, (some (10, true)), .bin .leq (.t 11) (.t 12)⟩,
      ⟨some 14, none, .pick (.t 10) (.t 13) (.k (.b false))⟩,
      ⟨some 6, none, .mv (.t 14)⟩])
    (.ret))
theorem k_spec_l1In : chkF Try.prog Try.f63 15 c_spec_l1In [.t 6] = true := by kernel_rfl
theorem call_spec_l1In {args : List AV} {σ : List AB} {K : AV → List AB → Prop} (hn : args.length ≤ 15) (hw : wpC Try.prog σ.length 15 c_spec_l1In (retP σ.length [.t 6] K) ⟨initT 0 args, σ⟩) : CallWp Try.prog n_spec_l1In args σ K := call_fn mixed Try.func63 k_spec_l1In hn hw
def c_spec_TaskValid : LC := .seq (.ops [⟨some 1, none, .box ty_impl_Task (.t 0)⟩,
      ⟨some 2, none, .mv (.k (.b false))⟩])
    (.seq (.ops [⟨some 3, none, .fa 0 (.t 1)⟩,
      ⟨some 4, none, .ld (.t 3)⟩,
      ⟨some 5, none, .call (.k (.fn n_spec_l1In [] [])) [.t 4, .k (.i .i64 1), .k (.i .i64 8)]⟩,
      ⟨some 6, none, .mv (.t 5)⟩,
      ⟨some 7, (some (6, true)), .fa 1 (.t 1)⟩,
      ⟨some 8, (some (6, true)), .ld (.t 7)⟩,
      ⟨some 9, (some (6, true)), .fa 0 (.t 1)⟩,
      ⟨some 10, (some (6, true)), .ld (.t 9)⟩,
      ⟨some 11, (some (6, true)), .fa 2 (.t 1)⟩,
      ⟨some 12, (some (6, true)), .ld (.t 11)⟩,
      ⟨some 13, (some (6, true)), .call (.k (.fn n_spec_l1In [] [])) [.t 8, .t 10, .t 12]⟩,
      ⟨some 14, none, .pick (.t 6) (.t 13) (.k (.b false))⟩,
      ⟨some 15, none, .mv (.t 14)⟩,
      ⟨some 16, (some (15, true)), .fa 2 (.t 1)⟩,
      ⟨some 17, (some (15, true)), .ld (.t 16)⟩,
      ⟨some 18, (some (15, true)), .call (.k (.fn n_spec_l1In [] [])) [.t 17, .k (.i .i64 1), .k (.i .i64 12)]⟩,
      ⟨some 19, none, .pick (.t 15) (.t 18) (.k (.b false))⟩,
      ⟨some 2, none, .mv (.t 19)⟩])
    (.ret))
theorem k_spec_TaskValid : chkF Try.prog Try.f67 20 c_spec_TaskValid [.t 2] = true := by kernel_rfl
theorem call_spec_TaskValid {args : List AV} {σ : List AB} {K : AV → List AB → Prop} (hn : args.length ≤ 20) (hw : wpC Try.prog σ.length 20 c_spec_TaskValid (retP σ.length [.t 2] K) ⟨initT 0 args, σ⟩) : CallWp Try.prog n_spec_TaskValid args σ K := call_fn mixed Try.func67 k_spec_TaskValid hn hw
def c_slices_ContainsFunc_impl_Task : LC := .seq (.ops [⟨some 4, none, .mv (.k (.b false))⟩])
    (.seq (.ops [⟨some 5, none, .mv (.t 0)⟩,
      ⟨some 6, none, .mv (.t 1)⟩,
      ⟨some 7, none, .call (.k (.fn n_slices_IndexFunc_impl_Task [] [])) [.t 5, .t 6]⟩,
      ⟨some 8, none, .bin .geq (.t 7) (.k (.i .i64 0))⟩,
      ⟨some 4, none, .mv (.t 8)⟩])
    (.ret))
theorem k_slices_ContainsFunc_impl_Task : chkF Try.prog Try.f71 9 c_slices_ContainsFunc_impl_Task [.t 4] = true := by kernel_rfl
theorem call_slices_ContainsFunc_impl_Task {args : List AV} {σ : List AB} {K : AV → List AB → Prop} (hn : args.length ≤ 9) (hw : wpC Try.prog σ.length 9 c_slices_ContainsFunc_impl_Task (retP σ.length [.t 4] K) ⟨initT 0 args, σ⟩) : CallWp Try.prog n_slices_ContainsFunc_impl_Task args σ K := call_fn mixed Try.func71 k_slices_ContainsFunc_impl_Task hn hw
def c_impl_SetValid_1 : LC := .seq (.ops [⟨some 1, none, .box ty_impl_Task (.t 0)⟩,
      ⟨some 2, none, .mv (.k (.b false))⟩])
    (.seq (.ops [⟨some 3, none, .ldn 3 (.t 1)⟩,
      ⟨some 4, none, .call (.k (.fn n_impl_TaskValid [] [])) [.t 3]⟩,
      ⟨some 5, none, .not (.t 4)⟩,
      ⟨some 2, none, .mv (.t 5)⟩])
    (.ret))
theorem k_impl_SetValid_1 : chkF Try.prog Try.f72 6 c_impl_SetValid_1 [.t 2] = true := by kernel_rfl
theorem call_impl_SetValid_1 {args : List AV} {σ : List AB} {K : AV → List AB → Prop} (hn : args.length ≤ 6) (hw : wpC Try.prog σ.length 6 c_impl_SetValid_1 (retP σ.length [.t 2] K) ⟨initT 0 args, σ⟩) : CallWp Try.prog n_impl_SetValid_1 args σ K := call_fn mixed Try.func72 k_impl_SetValid_1 hn hw
end Go.Proofs.Ytfngcejaphhmmaa
