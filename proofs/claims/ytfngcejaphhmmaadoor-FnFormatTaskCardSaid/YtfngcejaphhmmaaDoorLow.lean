import Derived.Test.YtfngcejaphhmmaaDoorProg
import Derived.Test.YtfngcejaphhmmaaDoorAbsY
import Derived.KernelRfl
namespace Go.Proofs.YtfngcejaphhmmaaDoor
open Go.Abs
set_option maxRecDepth 100000
theorem mixed : Tryd.prog.follows .mixedOrders = true := by kernel_rfl
abbrev n_laws_FnFormatTask : Nat := 3
abbrev n_spec_DrawFormatTask : Nat := 4
abbrev n_spec_DrawParseTask : Nat := 5
abbrev n_impl_FormatTask : Nat := 6
abbrev n_impl_ParseTask : Nat := 7
abbrev n_spec_ParseTask : Nat := 8
abbrev n_spec_FormatTask : Nat := 9
abbrev n_impl_TaskValid : Nat := 10
abbrev n_spec_TaskValid : Nat := 11
abbrev n_laws_alive : Nat := 12
abbrev n_spec_l20Task : Nat := 13
abbrev n_spec_l20Open : Nat := 14
abbrev n_spec_l20Rd_pick : Nat := 15
abbrev n_spec_l20Mutate : Nat := 16
abbrev n_strconv_Itoa : Nat := 17
abbrev n_strings_Split : Nat := 18
abbrev n_impl_ParseTask_1 : Nat := 19
abbrev n_strconv_Atoi : Nat := 20
abbrev n_spec_l10Fields : Nat := 21
abbrev n_spec_l10Num : Nat := 22
abbrev n_spec_l10Plain : Nat := 23
abbrev n_impl_in : Nat := 24
abbrev n_spec_l1In : Nat := 25
abbrev n_spec_l20Rd_odd : Nat := 26
abbrev ty_int : Nat := 3
abbrev ty_uint8 : Nat := 5
abbrev ty_string : Nat := 9
abbrev ty_impl_Task : Nat := 24
abbrev ty_sl_string : Nat := 38
abbrev ty_spec_l20Rd : Nat := 51
def c_laws_FnFormatTask : LC := .seq (.ops [⟨some 4, none, .mv (.k (.b false))⟩])
    (.seq (.seq (.ops [⟨some 14, none, .mv (.t 0)⟩,
      ⟨some 15, none, .len (.t 14)⟩,
      ⟨some 16, none, .bin .gtr (.t 15) (.k (.i .i64 1048576))⟩,
      ⟨some 17, none, .mv (.t 16)⟩,
      ⟨some 18, (some (17, false)), .mv (.t 1)⟩,
      ⟨some 19, (some (17, false)), .len (.t 18)⟩,
      ⟨some 20, (some (17, false)), .bin .gtr (.t 19) (.k (.i .i64 1048576))⟩,
      ⟨some 21, none, .pick (.t 17) (.k (.b true)) (.t 20)⟩])
    (.cond (.t 21) (.seq (.ops [⟨some 4, none, .mv (.k (.b true))⟩])
    (.ret))
    (.skip)))
    (.seq (.ops [⟨some 22, none, .mv (.t 0)⟩,
      ⟨some 23, none, .call (.k (.fn n_spec_DrawFormatTask [] [])) [.t 22]⟩,
      ⟨some 5, none, .alloc ty_impl_Task [.i .i64 0, .i .i64 0, .i .i64 0]⟩,
      ⟨none, none, .st 3 (.t 5) (.t 23)⟩])
    (.seq (.ops [⟨some 24, none, .mv (.t 1)⟩,
      ⟨some 25, none, .call (.k (.fn n_spec_DrawParseTask [] [])) [.t 24]⟩,
      ⟨some 6, none, .mv (.t 25)⟩])
    (.seq (.ops [⟨some 26, none, .ldn 3 (.t 5)⟩,
      ⟨some 27, none, .call (.k (.fn n_impl_FormatTask [] [])) [.t 26]⟩,
      ⟨some 7, none, .mv (.t 27)⟩])
    (.seq (.ops [⟨some 29, none, .mv (.t 6)⟩,
      ⟨some 30, none, .call (.k (.fn n_impl_ParseTask [] [])) [.t 29]⟩,
      ⟨some 28, none, .mv (.t 30)⟩,
      ⟨some 31, none, .ext 0 (.t 28)⟩,
      ⟨some 32, none, .ext 1 (.t 28)⟩,
      ⟨some 8, none, .alloc ty_impl_Task [.i .i64 0, .i .i64 0, .i .i64 0]⟩,
      ⟨none, none, .st 3 (.t 8) (.t 31)⟩,
      ⟨some 9, none, .mv (.t 32)⟩])
    (.seq (.ops [⟨some 34, none, .mv (.t 6)⟩,
      ⟨some 35, none, .call (.k (.fn n_spec_ParseTask [] [])) [.t 34]⟩,
      ⟨some 33, none, .mv (.t 35)⟩,
      ⟨some 36, none, .ext 0 (.t 33)⟩,
      ⟨some 37, none, .ext 1 (.t 33)⟩,
      ⟨some 10, none, .alloc ty_impl_Task [.i .i64 0, .i .i64 0, .i .i64 0]⟩,
      ⟨none, none, .st 3 (.t 10) (.t 36)⟩,
      ⟨some 11, none, .mv (.t 37)⟩])
    (.seq (.seq (.ops [⟨some 38, none, .mv (.t 7)⟩,
      ⟨some 39, none, .ldn 3 (.t 5)⟩,
      ⟨some 40, none, .call (.k (.fn n_spec_FormatTask [] [])) [.t 39]⟩,
      ⟨some 41, none, .scmp true (.t 38) (.t 40)⟩,
      ⟨some 42, none, .mv (.t 41)⟩,
      ⟨some 43, (some (42, false)), .ldn 3 (.t 8)⟩,
      ⟨some 44, (some (42, false)), .ldn 3 (.t 10)⟩,
      ⟨some 45, (some (42, false)), .aeq true [true, true, true] (.t 43) (.t 44)⟩,
      ⟨some 46, none, .pick (.t 42) (.k (.b true)) (.t 45)⟩,
      ⟨some 47, none, .mv (.t 46)⟩,
      ⟨some 48, (some (47, false)), .mv (.t 9)⟩,
      ⟨some 49, (some (47, false)), .mv (.t 11)⟩,
      ⟨some 50, (some (47, false)), .beq true (.t 48) (.t 49)⟩,
      ⟨some 51, none, .pick (.t 47) (.k (.b true)) (.t 50)⟩])
    (.cond (.t 51) (.seq (.ops [⟨some 4, none, .mv (.k (.b false))⟩])
    (.ret))
    (.skip)))
    (.seq (.seq (.ops [⟨some 52, none, .mv (.t 9)⟩,
      ⟨some 53, none, .mv (.t 52)⟩,
      ⟨some 54, (some (53, true)), .ldn 3 (.t 8)⟩,
      ⟨some 55, (some (53, true)), .call (.k (.fn n_impl_TaskValid [] [])) [.t 54]⟩,
      ⟨some 56, (some (53, true)), .not (.t 55)⟩,
      ⟨some 57, (some (53, true)), .mv (.t 56)⟩,
      ⟨some 58, (some (57, false)), .ldn 3 (.t 8)⟩,
      ⟨some 59, (some (57, false)), .call (.k (.fn n_impl_FormatTask [] [])) [.t 58]⟩,
      ⟨some 60, (some (57, false)), .mv (.t 6)⟩,
      ⟨some 61, (some (57, false)), .scmp true (.t 59) (.t 60)⟩,
      ⟨some 62, (some (53, true)), .pick (.t 57) (.k (.b true)) (.t 61)⟩,
      ⟨some 63, none, .pick (.t 53) (.t 62) (.k (.b false))⟩,
      ⟨some 64, none, .mv (.t 63)⟩,
      ⟨some 65, (some (64, false)), .mv (.t 9)⟩,
      ⟨some 66, (some (64, false)), .not (.t 65)⟩,
      ⟨some 67, (some (64, false)), .mv (.t 66)⟩,
      ⟨some 68, (some (67, true)), .ldn 3 (.t 8)⟩,
      ⟨some 69, (some (67, true)), .build [.i .i64 0, .i .i64 0, .i .i64 0] []⟩,
      ⟨some 70, (some (67, true)), .aeq true [true, true, true] (.t 68) (.t 69)⟩,
      ⟨some 71, (some (64, false)), .pick (.t 67) (.t 70) (.k (.b false))⟩,
      ⟨some 72, none, .pick (.t 64) (.k (.b true)) (.t 71)⟩])
    (.cond (.t 72) (.seq (.ops [⟨some 4, none, .mv (.k (.b false))⟩])
    (.ret))
    (.skip)))
    (.seq (.seq (.ops [⟨some 73, none, .ldn 3 (.t 5)⟩,
      ⟨some 74, none, .call (.k (.fn n_spec_TaskValid [] [])) [.t 73]⟩,
      ⟨some 75, none, .not (.t 74)⟩])
    (.cond (.t 75) (.seq (.ops [⟨some 76, none, .mv (.t 7)⟩,
      ⟨some 77, none, .scmp false (.t 76) (.k (.s (bs [])))⟩,
      ⟨some 78, none, .mv (.t 77)⟩,
      ⟨some 79, (some (78, true)), .call (.k (.fn n_laws_alive [] [])) []⟩,
      ⟨some 80, none, .pick (.t 78) (.t 79) (.k (.b false))⟩,
      ⟨some 4, none, .mv (.t 80)⟩])
    (.ret))
    (.skip)))
    (.seq (.ops [⟨some 82, none, .mv (.t 7)⟩,
      ⟨some 83, none, .call (.k (.fn n_impl_ParseTask [] [])) [.t 82]⟩,
      ⟨some 81, none, .mv (.t 83)⟩,
      ⟨some 84, none, .ext 0 (.t 81)⟩,
      ⟨some 85, none, .ext 1 (.t 81)⟩,
      ⟨some 12, none, .alloc ty_impl_Task [.i .i64 0, .i .i64 0, .i .i64 0]⟩,
      ⟨none, none, .st 3 (.t 12) (.t 84)⟩,
      ⟨some 13, none, .mv (.t 85)⟩])
    (.seq (.ops [⟨some 86, none, .mv (.t 13)⟩,
      ⟨some 87, none, .mv (.t 86)⟩,
      ⟨some 88, (some (87, true)), .ldn 3 (.t 12)⟩,
      ⟨some 89, (some (87, true)), .ldn 3 (.t 5)⟩,
      ⟨some 90, (some (87, true)), .aeq false [true, true, true] (.t 88) (.t 89)⟩,
      ⟨some 91, none, .pick (.t 87) (.t 90) (.k (.b false))⟩,
      ⟨some 92, none, .mv (.t 91)⟩,
      ⟨some 93, (some (92, true)), .mv (.t 7)⟩,
      ⟨some 94, (some (92, true)), .slen (.t 93)⟩,
      ⟨some 95, (some (92, true)), .bin .leq (.t 94) (.k (.i .i64 20))⟩,
      ⟨some 96, none, .pick (.t 92) (.t 95) (.k (.b false))⟩,
      ⟨some 4, none, .mv (.t 96)⟩])
    (.ret))))))))))))
theorem k_laws_FnFormatTask : chkF Tryd.prog Tryd.f3 97 c_laws_FnFormatTask [.t 4] = true := by kernel_rfl
theorem call_laws_FnFormatTask {args : List AV} {σ : List AB} {K : AV → List AB → Prop} (hn : args.length ≤ 97) (hw : wpC Tryd.prog σ.length 97 c_laws_FnFormatTask (retP σ.length [.t 4] K) ⟨initT 0 args, σ⟩) : CallWp Tryd.prog n_laws_FnFormatTask args σ K := call_fn mixed Tryd.func3 k_laws_FnFormatTask hn hw
def c_spec_DrawFormatTask : LC := .seq (.ops [⟨some 2, none, .alloc ty_impl_Task [.i .i64 0, .i .i64 0, .i .i64 0]⟩])
    (.seq (.ops [⟨some 3, none, .mv (.t 0)⟩,
      ⟨some 4, none, .call (.k (.fn n_spec_l20Open [] [])) [.t 3]⟩,
      ⟨some 5, none, .call (.k (.fn n_spec_l20Task [] [])) [.t 4, .k (.i .i64 4)]⟩,
      ⟨none, none, .st 3 (.t 2) (.t 5)⟩])
    (.ret))
theorem k_spec_DrawFormatTask : chkF Tryd.prog Tryd.f4 6 c_spec_DrawFormatTask [.c 2 (some 3)] = true := by kernel_rfl
theorem call_spec_DrawFormatTask {args : List AV} {σ : List AB} {K : AV → List AB → Prop} (hn : args.length ≤ 6) (hw : wpC Tryd.prog σ.length 6 c_spec_DrawFormatTask (retP σ.length [.c 2 (some 3)] K) ⟨initT 0 args, σ⟩) : CallWp Tryd.prog n_spec_DrawFormatTask args σ K := call_fn mixed Tryd.func4 k_spec_DrawFormatTask hn hw
def c_spec_DrawParseTask : LC := .seq (.ops [⟨some 2, none, .mv (.k (.s (bs [])))⟩])
    (.seq (.ops [⟨some 5, none, .mv (.t 0)⟩,
      ⟨some 6, none, .call (.k (.fn n_spec_l20Open [] [])) [.t 5]⟩,
      ⟨some 3, none, .mv (.t 6)⟩])
    (.seq (.ops [⟨some 7, none, .mv (.t 3)⟩,
      ⟨some 8, none, .call (.k (.fn n_spec_l20Task [] [])) [.t 7, .k (.i .i64 0)]⟩,
      ⟨some 9, none, .call (.k (.fn n_spec_FormatTask [] [])) [.t 8]⟩,
      ⟨some 4, none, .mv (.t 9)⟩])
    (.seq (.seq (.ops [⟨some 10, none, .mv (.t 3)⟩,
      ⟨some 11, none, .call (.k (.fn n_spec_l20Rd_pick [] [])) [.t 10, .k (.i .i64 4)]⟩])
    (.block 0 (.seq (.ops [⟨some 13, none, .bin .eql (.t 11) (.k (.i .i64 0))⟩,
      ⟨some 12, none, .mv (.t 13)⟩])
    (.cond (.t 12) (.seq (.ops [⟨some 14, none, .mv (.t 3)⟩,
      ⟨some 15, none, .mv (.t 4)⟩,
      ⟨some 16, none, .call (.k (.fn n_spec_l20Mutate [] [])) [.t 14, .t 15]⟩,
      ⟨some 2, none, .mv (.t 16)⟩])
    (.ret))
    (.seq (.ops [⟨some 18, none, .bin .eql (.t 11) (.k (.i .i64 1))⟩,
      ⟨some 17, none, .mv (.t 18)⟩])
    (.cond (.t 17) (.seq (.ops [⟨some 19, none, .bsl ty_string [.s .empty] 10 [(0, 1, .k (.s (bs []))), (1, 1, .k (.s (bs [116, 97, 115, 107]))), (2, 1, .k (.s (bs [116, 97, 115, 107, 32, 49, 32, 50]))), (3, 1, .k (.s (bs [116, 97, 115, 107, 32, 49, 32, 50, 32, 51, 32, 52]))), (4, 1, .k (.s (bs [116, 97, 115, 107, 32, 48, 49, 32, 50, 32, 51]))), (5, 1, .k (.s (bs [116, 97, 115, 107, 32, 51, 32, 50, 32, 52]))), (6, 1, .k (.s (bs [84, 97, 115, 107, 32, 49, 32, 50, 32, 51]))), (7, 1, .k (.s (bs [116, 97, 115, 107, 32, 49, 32, 32, 50, 32, 51]))), (8, 1, .k (.s (bs [116, 97, 115, 107, 32, 49, 32, 50, 32, 49, 51]))), (9, 1, .k (.s (bs [116, 97, 115, 107, 32, 49, 32, 50, 32, 51, 32])))]⟩,
      ⟨some 20, none, .mv (.t 3)⟩,
      ⟨some 21, none, .call (.k (.fn n_spec_l20Rd_pick [] [])) [.t 20, .k (.i .i64 10)]⟩,
      ⟨some 22, none, .ia 1 (.t 19) (.t 21)⟩,
      ⟨some 23, none, .ld (.t 22)⟩,
      ⟨some 2, none, .mv (.t 23)⟩])
    (.ret))
    (.skip)))))))
    (.seq (.ops [⟨some 24, none, .mv (.t 4)⟩,
      ⟨some 2, none, .mv (.t 24)⟩])
    (.ret)))))
theorem k_spec_DrawParseTask : chkF Tryd.prog Tryd.f5 25 c_spec_DrawParseTask [.t 2] = true := by kernel_rfl
theorem call_spec_DrawParseTask {args : List AV} {σ : List AB} {K : AV → List AB → Prop} (hn : args.length ≤ 25) (hw : wpC Tryd.prog σ.length 25 c_spec_DrawParseTask (retP σ.length [.t 2] K) ⟨initT 0 args, σ⟩) : CallWp Tryd.prog n_spec_DrawParseTask args σ K := call_fn mixed Tryd.func5 k_spec_DrawParseTask hn hw
def c_impl_FormatTask : LC := .seq (.ops [⟨some 1, none, .box ty_impl_Task (.t 0)⟩,
      ⟨some 2, none, .mv (.k (.s (bs [])))⟩])
    (.seq (.seq (.ops [⟨some 3, none, .ldn 3 (.t 1)⟩,
      ⟨some 4, none, .call (.k (.fn n_impl_TaskValid [] [])) [.t 3]⟩,
      ⟨some 5, none, .not (.t 4)⟩])
    (.cond (.t 5) (.seq (.ops [⟨some 2, none, .mv (.k (.s (bs [])))⟩])
    (.ret))
    (.skip)))
    (.seq (.draw 14 [⟨some 6, none, .fa 0 (.t 1)⟩,
      ⟨some 7, none, .ld (.t 6)⟩,
      ⟨some 8, none, .call (.k (.fn n_strconv_Itoa [] [])) [.t 7]⟩,
      ⟨some 9, none, .sadd (.k (.s (bs [116, 97, 115, 107, 32]))) (.t 8)⟩,
      ⟨some 10, none, .sadd (.t 9) (.k (.s (bs [32])))⟩,
      ⟨some 11, none, .fa 1 (.t 1)⟩,
      ⟨some 12, none, .ld (.t 11)⟩,
      ⟨some 13, none, .call (.k (.fn n_strconv_Itoa [] [])) [.t 12]⟩,
      ⟨some 14, none, .sadd (.t 10) (.t 13)⟩,
      ⟨some 15, none, .sadd (.t 14) (.k (.s (bs [32])))⟩,
      ⟨some 16, none, .fa 2 (.t 1)⟩,
      ⟨some 17, none, .ld (.t 16)⟩,
      ⟨some 18, none, .call (.k (.fn n_strconv_Itoa [] [])) [.t 17]⟩,
      ⟨some 19, none, .sadd (.t 15) (.t 18)⟩,
      ⟨some 2, none, .mv (.t 19)⟩])
    (.ret)))
theorem k_impl_FormatTask : chkF Tryd.prog Tryd.f6 20 c_impl_FormatTask [.t 2] = true := by kernel_rfl
theorem call_impl_FormatTask {args : List AV} {σ : List AB} {K : AV → List AB → Prop} (hn : args.length ≤ 20) (hw : wpC Tryd.prog σ.length 20 c_impl_FormatTask (retP σ.length [.t 2] K) ⟨initT 0 args, σ⟩) : CallWp Tryd.prog n_impl_FormatTask args σ K := call_fn mixed Tryd.func6 k_impl_FormatTask hn hw
def c_impl_ParseTask : LC := .seq (.ops [⟨some 2, none, .alloc ty_impl_Task [.i .i64 0, .i .i64 0, .i .i64 0]⟩,
      ⟨some 3, none, .mv (.k (.b false))⟩])
    (.seq (.ops [⟨some 7, none, .mv (.t 0)⟩,
      ⟨some 8, none, .call (.k (.fn n_strings_Split [] [])) [.t 7, .k (.s (bs [32]))]⟩,
      ⟨some 4, none, .alloc ty_sl_string [.sn]⟩,
      ⟨none, none, .st 1 (.t 4) (.t 8)⟩])
    (.seq (.seq (.ops [⟨some 9, none, .mv (.t 0)⟩,
      ⟨some 10, none, .slen (.t 9)⟩,
      ⟨some 11, none, .bin .gtr (.t 10) (.k (.i .i64 20))⟩,
      ⟨some 12, none, .mv (.t 11)⟩,
      ⟨some 13, (some (12, false)), .ld (.t 4)⟩,
      ⟨some 14, (some (12, false)), .len (.t 13)⟩,
      ⟨some 15, (some (12, false)), .bin .neq (.t 14) (.k (.i .i64 4))⟩,
      ⟨some 16, none, .pick (.t 12) (.k (.b true)) (.t 15)⟩])
    (.cond (.t 16) (.seq (.ops [⟨some 17, none, .build [.i .i64 0, .i .i64 0, .i .i64 0] []⟩,
      ⟨none, none, .st 3 (.t 2) (.t 17)⟩,
      ⟨some 3, none, .mv (.k (.b false))⟩])
    (.ret))
    (.skip)))
    (.seq (.ops [⟨some 18, none, .mkf n_impl_ParseTask_1 [] [.t 4]⟩,
      ⟨some 5, none, .mv (.t 18)⟩])
    (.seq (.ops [⟨some 19, none, .mv (.t 5)⟩,
      ⟨some 20, none, .call (.t 19) [.k (.i .i64 1)]⟩,
      ⟨some 21, none, .mv (.t 5)⟩,
      ⟨some 22, none, .call (.t 21) [.k (.i .i64 2)]⟩,
      ⟨some 23, none, .mv (.t 5)⟩,
      ⟨some 24, none, .call (.t 23) [.k (.i .i64 3)]⟩,
      ⟨some 25, none, .build [.i .i64 0, .i .i64 0, .i .i64 0] [(0, 1, .t 20), (1, 1, .t 22), (2, 1, .t 24)]⟩,
      ⟨some 6, none, .alloc ty_impl_Task [.i .i64 0, .i .i64 0, .i .i64 0]⟩,
      ⟨none, none, .st 3 (.t 6) (.t 25)⟩])
    (.seq (.seq (.ops [⟨some 26, none, .ldn 3 (.t 6)⟩,
      ⟨some 27, none, .call (.k (.fn n_impl_FormatTask [] [])) [.t 26]⟩,
      ⟨some 28, none, .mv (.t 0)⟩,
      ⟨some 29, none, .scmp true (.t 27) (.t 28)⟩])
    (.cond (.t 29) (.seq (.ops [⟨some 30, none, .build [.i .i64 0, .i .i64 0, .i .i64 0] []⟩,
      ⟨none, none, .st 3 (.t 2) (.t 30)⟩,
      ⟨some 3, none, .mv (.k (.b false))⟩])
    (.ret))
    (.skip)))
    (.seq (.ops [⟨some 31, none, .ldn 3 (.t 6)⟩,
      ⟨none, none, .st 3 (.t 2) (.t 31)⟩,
      ⟨some 3, none, .mv (.k (.b true))⟩])
    (.ret)))))))
theorem k_impl_ParseTask : chkF Tryd.prog Tryd.f7 32 c_impl_ParseTask [.c 2 (some 3), .t 3] = true := by kernel_rfl
theorem callC_impl_ParseTask {args : List AV} {σ : List AB} {K : AV → List AB → Prop} (hn : args.length ≤ 32) (hw : Closed σ → args.all (below1 σ.length) = true → wpC Tryd.prog σ.length 32 c_impl_ParseTask (retP σ.length [.c 2 (some 3), .t 3] K) ⟨initT 0 args, σ⟩) : CallWp Tryd.prog n_impl_ParseTask args σ K := call_fnC mixed Tryd.func7 k_impl_ParseTask hn hw
def c_spec_ParseTask : LC := .seq (.ops [⟨some 2, none, .alloc ty_impl_Task [.i .i64 0, .i .i64 0, .i .i64 0]⟩,
      ⟨some 3, none, .mv (.k (.b false))⟩])
    (.seq (.ops [⟨some 6, none, .mv (.t 0)⟩,
      ⟨some 7, none, .call (.k (.fn n_spec_l10Fields [] [])) [.t 6]⟩,
      ⟨some 4, none, .mv (.t 7)⟩])
    (.seq (.seq (.ops [⟨some 8, none, .mv (.t 0)⟩,
      ⟨some 9, none, .slen (.t 8)⟩,
      ⟨some 10, none, .bin .gtr (.t 9) (.k (.i .i64 20))⟩,
      ⟨some 11, none, .mv (.t 10)⟩,
      ⟨some 12, (some (11, false)), .mv (.t 4)⟩,
      ⟨some 13, (some (11, false)), .len (.t 12)⟩,
      ⟨some 14, (some (11, false)), .bin .neq (.t 13) (.k (.i .i64 4))⟩,
      ⟨some 15, none, .pick (.t 11) (.k (.b true)) (.t 14)⟩,
      ⟨some 16, none, .mv (.t 15)⟩,
      ⟨some 17, (some (16, false)), .mv (.t 4)⟩,
      ⟨some 18, (some (16, false)), .ia 1 (.t 17) (.k (.i .i64 0))⟩,
      ⟨some 19, (some (16, false)), .ld (.t 18)⟩,
      ⟨some 20, (some (16, false)), .scmp true (.t 19) (.k (.s (bs [116, 97, 115, 107])))⟩,
      ⟨some 21, none, .pick (.t 16) (.k (.b true)) (.t 20)⟩])
    (.cond (.t 21) (.seq (.ops [⟨some 22, none, .build [.i .i64 0, .i .i64 0, .i .i64 0] []⟩,
      ⟨none, none, .st 3 (.t 2) (.t 22)⟩,
      ⟨some 3, none, .mv (.k (.b false))⟩])
    (.ret))
    (.skip)))
    (.join (.plan [0, 1, 2, 4, 5, 6, 8, 9, 10] [⟨some 23, none, .mv (.t 4)⟩,
      ⟨some 24, none, .ia 1 (.t 23) (.k (.i .i64 1))⟩,
      ⟨some 25, none, .ld (.t 24)⟩,
      ⟨some 27, none, .mv (.t 4)⟩,
      ⟨some 28, none, .ia 1 (.t 27) (.k (.i .i64 2))⟩,
      ⟨some 29, none, .ld (.t 28)⟩,
      ⟨some 31, none, .mv (.t 4)⟩,
      ⟨some 32, none, .ia 1 (.t 31) (.k (.i .i64 3))⟩,
      ⟨some 33, none, .ld (.t 32)⟩]
      (.alt (.one 3 ⟨some 26, none, .call (.k (.fn n_spec_l10Num [] [])) [.t 25]⟩ [(29, none, 28), (33, none, 32)] []
        []
      (.alt (.one 7 ⟨some 30, none, .call (.k (.fn n_spec_l10Num [] [])) [.t 29]⟩ [(25, none, 24), (33, none, 32)] []
        []
      (.alt (.one 11 ⟨some 34, none, .call (.k (.fn n_spec_l10Num [] [])) [.t 33]⟩ [(25, none, 24), (29, none, 28)] [12]
        [⟨some 35, none, .build [.i .i64 0, .i .i64 0, .i .i64 0] [(0, 1, .t 26), (1, 1, .t 30), (2, 1, .t 34)]⟩]
      (.one 13 ⟨some 5, none, .alloc ty_impl_Task [.i .i64 0, .i .i64 0, .i .i64 0]⟩ [(25, none, 24), (29, none, 28), (33, none, 32)] []
        []
      (.one 14 ⟨none, none, .st 3 (.t 5) (.t 35)⟩ [] []
        []
      .fin))) (.one 13 ⟨some 5, none, .alloc ty_impl_Task [.i .i64 0, .i .i64 0, .i .i64 0]⟩ [(25, none, 24), (29, none, 28), (33, none, 32)] []
        []
      (.one 11 ⟨some 34, none, .call (.k (.fn n_spec_l10Num [] [])) [.t 33]⟩ [(25, none, 24), (29, none, 28)] [12]
        [⟨some 35, none, .build [.i .i64 0, .i .i64 0, .i .i64 0] [(0, 1, .t 26), (1, 1, .t 30), (2, 1, .t 34)]⟩]
      (.one 14 ⟨none, none, .st 3 (.t 5) (.t 35)⟩ [] []
        []
      .fin))))) (.one 13 ⟨some 5, none, .alloc ty_impl_Task [.i .i64 0, .i .i64 0, .i .i64 0]⟩ [(25, none, 24), (29, none, 28), (33, none, 32)] []
        []
      (.one 7 ⟨some 30, none, .call (.k (.fn n_spec_l10Num [] [])) [.t 29]⟩ [(25, none, 24), (33, none, 32)] []
        []
      (.one 11 ⟨some 34, none, .call (.k (.fn n_spec_l10Num [] [])) [.t 33]⟩ [(25, none, 24), (29, none, 28)] [12]
        [⟨some 35, none, .build [.i .i64 0, .i .i64 0, .i .i64 0] [(0, 1, .t 26), (1, 1, .t 30), (2, 1, .t 34)]⟩]
      (.one 14 ⟨none, none, .st 3 (.t 5) (.t 35)⟩ [] []
        []
      .fin)))))) (.one 13 ⟨some 5, none, .alloc ty_impl_Task [.i .i64 0, .i .i64 0, .i .i64 0]⟩ [(25, none, 24), (29, none, 28), (33, none, 32)] []
        []
      (.one 3 ⟨some 26, none, .call (.k (.fn n_spec_l10Num [] [])) [.t 25]⟩ [(29, none, 28), (33, none, 32)] []
        []
      (.one 7 ⟨some 30, none, .call (.k (.fn n_spec_l10Num [] [])) [.t 29]⟩ [(25, none, 24), (33, none, 32)] []
        []
      (.one 11 ⟨some 34, none, .call (.k (.fn n_spec_l10Num [] [])) [.t 33]⟩ [(25, none, 24), (29, none, 28)] [12]
        [⟨some 35, none, .build [.i .i64 0, .i .i64 0, .i .i64 0] [(0, 1, .t 26), (1, 1, .t 30), (2, 1, .t 34)]⟩]
      (.one 14 ⟨none, none, .st 3 (.t 5) (.t 35)⟩ [] []
        []
      .fin)))))))
    (.seq (.seq (.ops [⟨some 36, none, .ldn 3 (.t 5)⟩,
      ⟨some 37, none, .call (.k (.fn n_spec_TaskValid [] [])) [.t 36]⟩,
      ⟨some 38, none, .not (.t 37)⟩])
    (.cond (.t 38) (.seq (.ops [⟨some 39, none, .build [.i .i64 0, .i .i64 0, .i .i64 0] []⟩,
      ⟨none, none, .st 3 (.t 2) (.t 39)⟩,
      ⟨some 3, none, .mv (.k (.b false))⟩])
    (.ret))
    (.skip)))
    (.seq (.ops [⟨some 40, none, .ldn 3 (.t 5)⟩,
      ⟨none, none, .st 3 (.t 2) (.t 40)⟩,
      ⟨some 3, none, .mv (.k (.b true))⟩])
    (.ret))))))
theorem k_spec_ParseTask : chkF Tryd.prog Tryd.f8 41 c_spec_ParseTask [.c 2 (some 3), .t 3] = true := by kernel_rfl
theorem call_spec_ParseTask {args : List AV} {σ : List AB} {K : AV → List AB → Prop} (hn : args.length ≤ 41) (hw : wpC Tryd.prog σ.length 41 c_spec_ParseTask (retP σ.length [.c 2 (some 3), .t 3] K) ⟨initT 0 args, σ⟩) : CallWp Tryd.prog n_spec_ParseTask args σ K := call_fn mixed Tryd.func8 k_spec_ParseTask hn hw
def c_spec_FormatTask : LC := .seq (.ops [⟨some 1, none, .box ty_impl_Task (.t 0)⟩,
      ⟨some 2, none, .mv (.k (.s (bs [])))⟩])
    (.seq (.seq (.ops [⟨some 3, none, .ldn 3 (.t 1)⟩,
      ⟨some 4, none, .call (.k (.fn n_spec_TaskValid [] [])) [.t 3]⟩,
      ⟨some 5, none, .not (.t 4)⟩])
    (.cond (.t 5) (.seq (.ops [⟨some 2, none, .mv (.k (.s (bs [])))⟩])
    (.ret))
    (.skip)))
    (.seq (.draw 14 [⟨some 6, none, .fa 0 (.t 1)⟩,
      ⟨some 7, none, .ld (.t 6)⟩,
      ⟨some 8, none, .call (.k (.fn n_spec_l10Plain [] [])) [.t 7]⟩,
      ⟨some 9, none, .sadd (.k (.s (bs [116, 97, 115, 107, 32]))) (.t 8)⟩,
      ⟨some 10, none, .sadd (.t 9) (.k (.s (bs [32])))⟩,
      ⟨some 11, none, .fa 1 (.t 1)⟩,
      ⟨some 12, none, .ld (.t 11)⟩,
      ⟨some 13, none, .call (.k (.fn n_spec_l10Plain [] [])) [.t 12]⟩,
      ⟨some 14, none, .sadd (.t 10) (.t 13)⟩,
      ⟨some 15, none, .sadd (.t 14) (.k (.s (bs [32])))⟩,
      ⟨some 16, none, .fa 2 (.t 1)⟩,
      ⟨some 17, none, .ld (.t 16)⟩,
      ⟨some 18, none, .call (.k (.fn n_spec_l10Plain [] [])) [.t 17]⟩,
      ⟨some 19, none, .sadd (.t 15) (.t 18)⟩,
      ⟨some 2, none, .mv (.t 19)⟩])
    (.ret)))
theorem k_spec_FormatTask : chkF Tryd.prog Tryd.f9 20 c_spec_FormatTask [.t 2] = true := by kernel_rfl
theorem call_spec_FormatTask {args : List AV} {σ : List AB} {K : AV → List AB → Prop} (hn : args.length ≤ 20) (hw : wpC Tryd.prog σ.length 20 c_spec_FormatTask (retP σ.length [.t 2] K) ⟨initT 0 args, σ⟩) : CallWp Tryd.prog n_spec_FormatTask args σ K := call_fn mixed Tryd.func9 k_spec_FormatTask hn hw
def c_impl_TaskValid : LC := .seq (.ops [⟨some 1, none, .box ty_impl_Task (.t 0)⟩,
      ⟨some 2, none, .mv (.k (.b false))⟩])
    (.seq (.ops [⟨some 3, none, .fa 0 (.t 1)⟩,
      ⟨some 4, none, .ld (.t 3)⟩,
      ⟨some 5, none, .call (.k (.fn n_impl_in [] [])) [.t 4, .k (.i .i64 1), .k (.i .i64 8)]⟩,
      ⟨some 6, none, .mv (.t 5)⟩,
      ⟨some 7, (some (6, true)), .fa 1 (.t 1)⟩,
      ⟨some 8, (some (6, true)), .ld (.t 7)⟩,
      ⟨some 9, (some (6, true)), .fa 0 (.t 1)⟩,
      ⟨some 10, (some (6, true)), .ld (.t 9)⟩,
      ⟨some 11, (some (6, true)), .fa 2 (.t 1)⟩,
      ⟨some 12, (some (6, true)), .ld (.t 11)⟩,
      ⟨some 13, (some (6, true)), .call (.k (.fn n_impl_in [] [])) [.t 8, .t 10, .t 12]⟩,
      ⟨some 14, none, .pick (.t 6) (.t 13) (.k (.b false))⟩,
      ⟨some 15, none, .mv (.t 14)⟩,
      ⟨some 16, (some (15, true)), .fa 2 (.t 1)⟩,
      ⟨some 17, (some (15, true)), .ld (.t 16)⟩,
      ⟨some 18, (some (15, true)), .bin .leq (.t 17) (.k (.i .i64 12))⟩,
      ⟨some 19, none, .pick (.t 15) (.t 18) (.k (.b false))⟩,
      ⟨some 2, none, .mv (.t 19)⟩])
    (.ret))
theorem k_impl_TaskValid : chkF Tryd.prog Tryd.f10 20 c_impl_TaskValid [.t 2] = true := by kernel_rfl
theorem call_impl_TaskValid {args : List AV} {σ : List AB} {K : AV → List AB → Prop} (hn : args.length ≤ 20) (hw : wpC Tryd.prog σ.length 20 c_impl_TaskValid (retP σ.length [.t 2] K) ⟨initT 0 args, σ⟩) : CallWp Tryd.prog n_impl_TaskValid args σ K := call_fn mixed Tryd.func10 k_impl_TaskValid hn hw
def c_spec_TaskValid : LC := .seq (.ops [⟨some 1, none, .box ty_impl_Task (.t 0)⟩,
      ⟨some 2, none, .mv (.k (.b false))⟩])
    (.seq (.ops [⟨some 3, none, .fa 0 (.t 1)⟩,
      ⟨some 4, none, .ld (.t 3)⟩,
      ⟨some 5, none, .call (.k (.fn n_spec_l1In [] [])) [.t 4, .k (.i .i64 1), .k (.i .i64 8)]⟩,
      ⟨some 6, none, .mv (.t 5)⟩,
      ⟨some 7, (some (6, true)), .fa 1 (.t 1)⟩,
      ⟨some 8, (some (6, true)), .ld (.t 7)⟩,
      ⟨some 9, (some (6, true)), .fa 0 (.t 1)⟩,
      ⟨some 10, (some (6, true)), .ld (.t 9)⟩,
      ⟨some 11, (some (6, true)), .fa 2 (.t 1)⟩,
      ⟨some 12, (some (6, true)), .ld (.t 11)⟩,
      ⟨some 13, (some (6, true)), .call (.k (.fn n_spec_l1In [] [])) [.t 8, .t 10, .t 12]⟩,
      ⟨some 14, none, .pick (.t 6) (.t 13) (.k (.b false))⟩,
      ⟨some 15, none, .mv (.t 14)⟩,
      ⟨some 16, (some (15, true)), .fa 2 (.t 1)⟩,
      ⟨some 17, (some (15, true)), .ld (.t 16)⟩,
      ⟨some 18, (some (15, true)), .call (.k (.fn n_spec_l1In [] [])) [.t 17, .k (.i .i64 1), .k (.i .i64 12)]⟩,
      ⟨some 19, none, .pick (.t 15) (.t 18) (.k (.b false))⟩,
      ⟨some 2, none, .mv (.t 19)⟩])
    (.ret))
theorem k_spec_TaskValid : chkF Tryd.prog Tryd.f11 20 c_spec_TaskValid [.t 2] = true := by kernel_rfl
theorem call_spec_TaskValid {args : List AV} {σ : List AB} {K : AV → List AB → Prop} (hn : args.length ≤ 20) (hw : wpC Tryd.prog σ.length 20 c_spec_TaskValid (retP σ.length [.t 2] K) ⟨initT 0 args, σ⟩) : CallWp Tryd.prog n_spec_TaskValid args σ K := call_fn mixed Tryd.func11 k_spec_TaskValid hn hw
def c_laws_alive : LC := .seq (.ops [⟨some 0, none, .mv (.k (.b false))⟩])
    (.seq (.ops [⟨some 1, none, .build [.i .i64 0, .i .i64 0, .i .i64 0] [(0, 1, .k (.i .i64 1)), (1, 1, .k (.i .i64 1)), (2, 1, .k (.i .i64 1))]⟩,
      ⟨some 2, none, .call (.k (.fn n_impl_TaskValid [] [])) [.t 1]⟩,
      ⟨some 0, none, .mv (.t 2)⟩])
    (.ret))
theorem k_laws_alive : chkF Tryd.prog Tryd.f12 3 c_laws_alive [.t 0] = true := by kernel_rfl
theorem call_laws_alive {args : List AV} {σ : List AB} {K : AV → List AB → Prop} (hn : args.length ≤ 3) (hw : wpC Tryd.prog σ.length 3 c_laws_alive (retP σ.length [.t 0] K) ⟨initT 0 args, σ⟩) : CallWp Tryd.prog n_laws_alive args σ K := call_fn mixed Tryd.func12 k_laws_alive hn hw
def c_spec_l20Task : LC := .seq (.ops [⟨some 4, none, .alloc ty_impl_Task [.i .i64 0, .i .i64 0, .i .i64 0]⟩])
    (.seq (.ops [⟨some 6, none, .mv (.t 0)⟩,
      ⟨some 7, none, .call (.k (.fn n_spec_l20Rd_pick [] [])) [.t 6, .k (.i .i64 12)]⟩,
      ⟨some 8, none, .bin .add (.k (.i .i64 1)) (.t 7)⟩,
      ⟨some 9, none, .bsl ty_int [.i .i64 0] 8 [(0, 1, .k (.i .i64 2)), (1, 1, .k (.i .i64 3)), (2, 1, .k (.i .i64 4)), (3, 1, .k (.i .i64 6)), (4, 1, .k (.i .i64 8)), (5, 1, .k (.i .i64 12)), (6, 1, .t 8), (7, 1, .k (.i .i64 5))]⟩,
      ⟨some 10, none, .mv (.t 0)⟩,
      ⟨some 11, none, .call (.k (.fn n_spec_l20Rd_pick [] [])) [.t 10, .k (.i .i64 8)]⟩,
      ⟨some 12, none, .ia 1 (.t 9) (.t 11)⟩,
      ⟨some 13, none, .ld (.t 12)⟩,
      ⟨some 14, none, .build [.i .i64 0, .i .i64 0, .i .i64 0] [(2, 1, .t 13)]⟩,
      ⟨some 5, none, .alloc ty_impl_Task [.i .i64 0, .i .i64 0, .i .i64 0]⟩,
      ⟨none, none, .st 3 (.t 5) (.t 14)⟩])
    (.join (.plan [0, 1, 2, 3, 4, 7, 8, 9, 10, 12] [⟨some 15, none, .fa 2 (.t 5)⟩,
      ⟨some 16, none, .ld (.t 15)⟩,
      ⟨some 17, none, .mv (.t 0)⟩,
      ⟨some 18, none, .fa 2 (.t 5)⟩,
      ⟨some 19, none, .ld (.t 18)⟩,
      ⟨some 22, none, .fa 2 (.t 5)⟩,
      ⟨some 23, none, .ld (.t 22)⟩,
      ⟨some 24, none, .bin .sub (.t 23) (.k (.i .i64 1))⟩,
      ⟨some 25, none, .mx (.k (.i .i64 1)) (.t 24)⟩,
      ⟨some 27, none, .mv (.t 0)⟩]
      (.one 5 ⟨some 20, none, .call (.k (.fn n_spec_l20Rd_pick [] [])) [.t 17, .t 19]⟩ [(16, none, 15), (23, none, 22)] [6]
        [⟨some 21, none, .bin .add (.k (.i .i64 1)) (.t 20)⟩]
      (.alt (.one 11 ⟨some 26, none, .bsl ty_int [.i .i64 0] 3 [(0, 1, .t 16), (1, 1, .t 21), (2, 1, .t 25)]⟩ [(19, none, 18), (23, none, 22)] []
        []
      (.one 13 ⟨some 28, none, .call (.k (.fn n_spec_l20Rd_pick [] [])) [.t 27, .k (.i .i64 3)]⟩ [(16, none, 15), (19, none, 18), (23, none, 22)] [14, 15, 16]
        [⟨some 29, none, .ia 1 (.t 26) (.t 28)⟩,
        ⟨some 30, none, .ld (.t 29)⟩,
        ⟨some 31, none, .fa 1 (.t 5)⟩]
      (.one 17 ⟨none, none, .st 1 (.t 31) (.t 30)⟩ [] []
        []
      .fin))) (.one 13 ⟨some 28, none, .call (.k (.fn n_spec_l20Rd_pick [] [])) [.t 27, .k (.i .i64 3)]⟩ [(16, none, 15), (19, none, 18), (23, none, 22)] []
        []
      (.one 11 ⟨some 26, none, .bsl ty_int [.i .i64 0] 3 [(0, 1, .t 16), (1, 1, .t 21), (2, 1, .t 25)]⟩ [(19, none, 18), (23, none, 22)] [14, 15, 16]
        [⟨some 29, none, .ia 1 (.t 26) (.t 28)⟩,
        ⟨some 30, none, .ld (.t 29)⟩,
        ⟨some 31, none, .fa 1 (.t 5)⟩]
      (.one 17 ⟨none, none, .st 1 (.t 31) (.t 30)⟩ [] []
        []
      .fin))))))
    (.join (.plan [0, 1, 2, 3, 4, 5, 6, 7, 8, 9, 10, 12] [⟨some 32, none, .mv (.t 0)⟩,
      ⟨some 33, none, .fa 1 (.t 5)⟩,
      ⟨some 34, none, .ld (.t 33)⟩,
      ⟨some 35, none, .fa 1 (.t 5)⟩,
      ⟨some 36, none, .ld (.t 35)⟩,
      ⟨some 37, none, .bin .quo (.t 36) (.k (.i .i64 2))⟩,
      ⟨some 38, none, .mx (.k (.i .i64 1)) (.t 37)⟩,
      ⟨some 39, none, .fa 1 (.t 5)⟩,
      ⟨some 40, none, .ld (.t 39)⟩,
      ⟨some 41, none, .bin .quo (.t 40) (.k (.i .i64 3))⟩,
      ⟨some 42, none, .mx (.k (.i .i64 1)) (.t 41)⟩,
      ⟨some 44, none, .mv (.t 0)⟩]
      (.alt (.one 11 ⟨some 43, none, .bsl ty_int [.i .i64 0] 3 [(0, 1, .t 34), (1, 1, .t 38), (2, 1, .t 42)]⟩ [(36, none, 35), (40, none, 39)] []
        []
      (.one 13 ⟨some 45, none, .call (.k (.fn n_spec_l20Rd_pick [] [])) [.t 44, .k (.i .i64 3)]⟩ [(34, none, 33), (36, none, 35), (40, none, 39)] [14, 15, 16]
        [⟨some 46, none, .ia 1 (.t 43) (.t 45)⟩,
        ⟨some 47, none, .ld (.t 46)⟩,
        ⟨some 48, none, .mn (.k (.i .i64 8)) (.t 47)⟩]
      (.one 17 ⟨some 49, none, .call (.k (.fn n_spec_l20Rd_pick [] [])) [.t 32, .t 48]⟩ [(34, none, 33), (36, none, 35), (40, none, 39), (47, none, 46)] [18, 19]
        [⟨some 50, none, .bin .add (.k (.i .i64 1)) (.t 49)⟩,
        ⟨some 51, none, .fa 0 (.t 5)⟩]
      (.one 20 ⟨none, none, .st 1 (.t 51) (.t 50)⟩ [] []
        []
      .fin)))) (.one 13 ⟨some 45, none, .call (.k (.fn n_spec_l20Rd_pick [] [])) [.t 44, .k (.i .i64 3)]⟩ [(34, none, 33), (36, none, 35), (40, none, 39)] []
        []
      (.one 11 ⟨some 43, none, .bsl ty_int [.i .i64 0] 3 [(0, 1, .t 34), (1, 1, .t 38), (2, 1, .t 42)]⟩ [(36, none, 35), (40, none, 39)] [14, 15, 16]
        [⟨some 46, none, .ia 1 (.t 43) (.t 45)⟩,
        ⟨some 47, none, .ld (.t 46)⟩,
        ⟨some 48, none, .mn (.k (.i .i64 8)) (.t 47)⟩]
      (.one 17 ⟨some 49, none, .call (.k (.fn n_spec_l20Rd_pick [] [])) [.t 32, .t 48]⟩ [(34, none, 33), (36, none, 35), (40, none, 39), (47, none, 46)] [18, 19]
        [⟨some 50, none, .bin .add (.k (.i .i64 1)) (.t 49)⟩,
        ⟨some 51, none, .fa 0 (.t 5)⟩]
      (.one 20 ⟨none, none, .st 1 (.t 51) (.t 50)⟩ [] []
        []
      .fin))))))
    (.join (.seq (.ops [⟨some 52, none, .mv (.t 0)⟩,
      ⟨some 53, none, .mv (.t 1)⟩,
      ⟨some 54, none, .call (.k (.fn n_spec_l20Rd_odd [] [])) [.t 52, .t 53]⟩])
    (.cond (.t 54) (.seq (.ops [⟨some 55, none, .mv (.t 0)⟩,
      ⟨some 56, none, .call (.k (.fn n_spec_l20Rd_pick [] [])) [.t 55, .k (.i .i64 3)]⟩])
    (.block 0 (.seq (.ops [⟨some 64, none, .bin .eql (.t 56) (.k (.i .i64 0))⟩,
      ⟨some 63, none, .mv (.t 64)⟩])
    (.cond (.t 63) (.plan [0, 1, 2, 4] [⟨some 65, none, .fa 1 (.t 5)⟩,
      ⟨some 66, none, .ld (.t 65)⟩,
      ⟨some 67, none, .bin .add (.t 66) (.k (.i .i64 1))⟩,
      ⟨some 69, none, .mv (.t 0)⟩]
      (.alt (.one 3 ⟨some 68, none, .bsl ty_int [.i .i64 0] 4 [(0, 1, .k (.i .i64 0)), (1, 1, .k (.i .i64 (-1))), (2, 1, .k (.i .i64 9)), (3, 1, .t 67)]⟩ [(66, none, 65)] []
        []
      (.one 5 ⟨some 70, none, .call (.k (.fn n_spec_l20Rd_pick [] [])) [.t 69, .k (.i .i64 4)]⟩ [(66, none, 65)] [6, 7, 8]
        [⟨some 71, none, .ia 1 (.t 68) (.t 70)⟩,
        ⟨some 72, none, .ld (.t 71)⟩,
        ⟨some 73, none, .fa 0 (.t 5)⟩]
      (.one 9 ⟨none, none, .st 1 (.t 73) (.t 72)⟩ [] []
        []
      .fin))) (.one 5 ⟨some 70, none, .call (.k (.fn n_spec_l20Rd_pick [] [])) [.t 69, .k (.i .i64 4)]⟩ [(66, none, 65)] []
        []
      (.one 3 ⟨some 68, none, .bsl ty_int [.i .i64 0] 4 [(0, 1, .k (.i .i64 0)), (1, 1, .k (.i .i64 (-1))), (2, 1, .k (.i .i64 9)), (3, 1, .t 67)]⟩ [(66, none, 65)] [6, 7, 8]
        [⟨some 71, none, .ia 1 (.t 68) (.t 70)⟩,
        ⟨some 72, none, .ld (.t 71)⟩,
        ⟨some 73, none, .fa 0 (.t 5)⟩]
      (.one 9 ⟨none, none, .st 1 (.t 73) (.t 72)⟩ [] []
        []
      .fin)))))
    (.seq (.ops [⟨some 75, none, .bin .eql (.t 56) (.k (.i .i64 1))⟩,
      ⟨some 74, none, .mv (.t 75)⟩])
    (.cond (.t 74) (.plan [0, 1, 2, 4] [⟨some 76, none, .fa 2 (.t 5)⟩,
      ⟨some 77, none, .ld (.t 76)⟩,
      ⟨some 78, none, .bin .add (.t 77) (.k (.i .i64 1))⟩,
      ⟨some 80, none, .mv (.t 0)⟩]
      (.alt (.one 3 ⟨some 79, none, .bsl ty_int [.i .i64 0] 3 [(0, 1, .k (.i .i64 0)), (1, 1, .t 78), (2, 1, .k (.i .i64 (-1)))]⟩ [(77, none, 76)] []
        []
      (.one 5 ⟨some 81, none, .call (.k (.fn n_spec_l20Rd_pick [] [])) [.t 80, .k (.i .i64 3)]⟩ [(77, none, 76)] [6, 7, 8]
        [⟨some 82, none, .ia 1 (.t 79) (.t 81)⟩,
        ⟨some 83, none, .ld (.t 82)⟩,
        ⟨some 84, none, .fa 1 (.t 5)⟩]
      (.one 9 ⟨none, none, .st 1 (.t 84) (.t 83)⟩ [] []
        []
      .fin))) (.one 5 ⟨some 81, none, .call (.k (.fn n_spec_l20Rd_pick [] [])) [.t 80, .k (.i .i64 3)]⟩ [(77, none, 76)] []
        []
      (.one 3 ⟨some 79, none, .bsl ty_int [.i .i64 0] 3 [(0, 1, .k (.i .i64 0)), (1, 1, .t 78), (2, 1, .k (.i .i64 (-1)))]⟩ [(77, none, 76)] [6, 7, 8]
        [⟨some 82, none, .ia 1 (.t 79) (.t 81)⟩,
        ⟨some 83, none, .ld (.t 82)⟩,
        ⟨some 84, none, .fa 1 (.t 5)⟩]
      (.one 9 ⟨none, none, .st 1 (.t 84) (.t 83)⟩ [] []
        []
      .fin)))))
    (.ops [⟨some 57, none, .bsl ty_int [.i .i64 0] 3 [(0, 1, .k (.i .i64 0)), (1, 1, .k (.i .i64 13)), (2, 1, .k (.i .i64 (-1)))]⟩,
      ⟨some 58, none, .mv (.t 0)⟩,
      ⟨some 59, none, .call (.k (.fn n_spec_l20Rd_pick [] [])) [.t 58, .k (.i .i64 3)]⟩,
      ⟨some 60, none, .ia 1 (.t 57) (.t 59)⟩,
      ⟨some 61, none, .ld (.t 60)⟩,
      ⟨some 62, none, .fa 2 (.t 5)⟩,
      ⟨none, none, .st 1 (.t 62) (.t 61)⟩])))))))
    (.skip)))
    (.seq (.ops [⟨some 85, none, .ldn 3 (.t 5)⟩,
      ⟨none, none, .st 3 (.t 4) (.t 85)⟩])
    (.ret))))))
theorem k_spec_l20Task : chkF Tryd.prog Tryd.f13 86 c_spec_l20Task [.c 4 (some 3)] = true := by kernel_rfl
theorem call_spec_l20Task {args : List AV} {σ : List AB} {K : AV → List AB → Prop} (hn : args.length ≤ 86) (hw : wpC Tryd.prog σ.length 86 c_spec_l20Task (retP σ.length [.c 4 (some 3)] K) ⟨initT 0 args, σ⟩) : CallWp Tryd.prog n_spec_l20Task args σ K := call_fn mixed Tryd.func13 k_spec_l20Task hn hw
def c_spec_l20Open : LC := .seq (.ops [⟨some 2, none, .mv (.k (.pn))⟩])
    (.join (.seq (.ops [⟨some 3, none, .mv (.t 0)⟩,
      ⟨some 4, none, .len (.t 3)⟩,
      ⟨some 5, none, .bin .gtr (.t 4) (.k (.i .i64 2000))⟩])
    (.cond (.t 5) (.ops [⟨some 6, none, .mv (.t 0)⟩,
      ⟨some 7, none, .slc 1 (.t 6) none (some (.k (.i .i64 2000))) none⟩,
      ⟨some 0, none, .mv (.t 7)⟩])
    (.skip)))
    (.seq (.ops [⟨some 8, none, .mv (.t 0)⟩,
      ⟨some 9, none, .build [.sn, .i .i64 0] [(0, 1, .t 8)]⟩,
      ⟨some 10, none, .box ty_spec_l20Rd (.t 9)⟩,
      ⟨some 2, none, .mv (.t 10)⟩])
    (.ret)))
theorem k_spec_l20Open : chkF Tryd.prog Tryd.f14 11 c_spec_l20Open [.t 2] = true := by kernel_rfl
theorem call_spec_l20Open {args : List AV} {σ : List AB} {K : AV → List AB → Prop} (hn : args.length ≤ 11) (hw : wpC Tryd.prog σ.length 11 c_spec_l20Open (retP σ.length [.t 2] K) ⟨initT 0 args, σ⟩) : CallWp Tryd.prog n_spec_l20Open args σ K := call_fn mixed Tryd.func14 k_spec_l20Open hn hw
def c_spec_l20Rd_pick : LC := .seq (.ops [⟨some 4, none, .mv (.k (.i .i64 0))⟩])
    (.seq (.ops [⟨some 7, none, .mv (.t 0)⟩,
      ⟨some 8, none, .mv (.t 0)⟩,
      ⟨some 9, none, .nilc (.t 8)⟩,
      ⟨some 10, none, .fa 1 (.t 9)⟩,
      ⟨some 11, none, .ld (.t 10)⟩,
      ⟨some 12, none, .bin .add (.t 11) (.k (.i .i64 1))⟩,
      ⟨some 13, none, .nilc (.t 7)⟩,
      ⟨some 14, none, .fa 1 (.t 13)⟩,
      ⟨none, none, .st 1 (.t 14) (.t 12)⟩])
    (.seq (.seq (.ops [⟨some 15, none, .mv (.t 1)⟩,
      ⟨some 16, none, .bin .lss (.t 15) (.k (.i .i64 1))⟩,
      ⟨some 17, none, .mv (.t 16)⟩,
      ⟨some 18, (some (17, false)), .mv (.t 0)⟩,
      ⟨some 19, (some (17, false)), .nilc (.t 18)⟩,
      ⟨some 20, (some (17, false)), .fa 0 (.t 19)⟩,
      ⟨some 21, (some (17, false)), .ld (.t 20)⟩,
      ⟨some 22, (some (17, false)), .len (.t 21)⟩,
      ⟨some 23, (some (17, false)), .bin .eql (.t 22) (.k (.i .i64 0))⟩,
      ⟨some 24, none, .pick (.t 17) (.k (.b true)) (.t 23)⟩])
    (.cond (.t 24) (.seq (.ops [⟨some 4, none, .mv (.k (.i .i64 0))⟩])
    (.ret))
    (.skip)))
    (.seq (.ops [⟨some 25, none, .mv (.t 0)⟩,
      ⟨some 26, none, .nilc (.t 25)⟩,
      ⟨some 27, none, .fa 1 (.t 26)⟩,
      ⟨some 28, none, .ld (.t 27)⟩,
      ⟨some 29, none, .bin .sub (.t 28) (.k (.i .i64 1))⟩,
      ⟨some 5, none, .mv (.t 29)⟩])
    (.seq (.seq (.ops [⟨some 30, none, .mv (.t 5)⟩,
      ⟨some 31, none, .mv (.t 0)⟩,
      ⟨some 32, none, .nilc (.t 31)⟩,
      ⟨some 33, none, .fa 0 (.t 32)⟩,
      ⟨some 34, none, .ld (.t 33)⟩,
      ⟨some 35, none, .len (.t 34)⟩,
      ⟨some 36, none, .bin .lss (.t 30) (.t 35)⟩])
    (.cond (.t 36) (.seq (.ops [⟨some 37, none, .mv (.t 0)⟩,
      ⟨some 38, none, .nilc (.t 37)⟩,
      ⟨some 39, none, .fa 0 (.t 38)⟩,
      ⟨some 40, none, .ld (.t 39)⟩,
      ⟨some 41, none, .mv (.t 5)⟩,
      ⟨some 42, none, .ia 1 (.t 40) (.t 41)⟩,
      ⟨some 43, none, .ld (.t 42)⟩,
      ⟨some 44, none, .conv .i64 (.t 43)⟩,
      ⟨some 45, none, .mv (.t 1)⟩,
      ⟨some 46, none, .bin .rem (.t 44) (.t 45)⟩,
      ⟨some 4, none, .mv (.t 46)⟩])
    (.ret))
    (.skip)))
    (.seq (.draw 45 [⟨some 47, none, .mv (.t 0)⟩,
      ⟨some 48, none, .nilc (.t 47)⟩,
      ⟨some 49, none, .fa 0 (.t 48)⟩,
      ⟨some 50, none, .ld (.t 49)⟩,
      ⟨some 51, none, .mv (.t 5)⟩,
      ⟨some 52, none, .mv (.t 0)⟩,
      ⟨some 53, none, .nilc (.t 52)⟩,
      ⟨some 54, none, .fa 0 (.t 53)⟩,
      ⟨some 55, none, .ld (.t 54)⟩,
      ⟨some 56, none, .len (.t 55)⟩,
      ⟨some 57, none, .bin .rem (.t 51) (.t 56)⟩,
      ⟨some 58, none, .ia 1 (.t 50) (.t 57)⟩,
      ⟨some 59, none, .ld (.t 58)⟩,
      ⟨some 60, none, .conv .i64 (.t 59)⟩,
      ⟨some 61, none, .bin .mul (.t 60) (.k (.i .i64 131))⟩,
      ⟨some 62, none, .mv (.t 0)⟩,
      ⟨some 63, none, .nilc (.t 62)⟩,
      ⟨some 64, none, .fa 0 (.t 63)⟩,
      ⟨some 65, none, .ld (.t 64)⟩,
      ⟨some 66, none, .mv (.t 5)⟩,
      ⟨some 67, none, .bin .mul (.t 66) (.k (.i .i64 7))⟩,
      ⟨some 68, none, .bin .add (.t 67) (.k (.i .i64 3))⟩,
      ⟨some 69, none, .mv (.t 0)⟩,
      ⟨some 70, none, .nilc (.t 69)⟩,
      ⟨some 71, none, .fa 0 (.t 70)⟩,
      ⟨some 72, none, .ld (.t 71)⟩,
      ⟨some 73, none, .len (.t 72)⟩,
      ⟨some 74, none, .bin .rem (.t 68) (.t 73)⟩,
      ⟨some 75, none, .ia 1 (.t 65) (.t 74)⟩,
      ⟨some 76, none, .ld (.t 75)⟩,
      ⟨some 77, none, .conv .i64 (.t 76)⟩,
      ⟨some 78, none, .bin .mul (.t 77) (.k (.i .i64 1117))⟩,
      ⟨some 79, none, .bin .add (.t 61) (.t 78)⟩,
      ⟨some 80, none, .mv (.t 5)⟩,
      ⟨some 81, none, .bin .mul (.t 80) (.k (.i .i64 29))⟩,
      ⟨some 82, none, .bin .add (.t 79) (.t 81)⟩,
      ⟨some 83, none, .mv (.t 5)⟩,
      ⟨some 84, none, .mv (.t 0)⟩,
      ⟨some 85, none, .nilc (.t 84)⟩,
      ⟨some 86, none, .fa 0 (.t 85)⟩,
      ⟨some 87, none, .ld (.t 86)⟩,
      ⟨some 88, none, .len (.t 87)⟩,
      ⟨some 89, none, .bin .quo (.t 83) (.t 88)⟩,
      ⟨some 90, none, .bin .mul (.t 89) (.k (.i .i64 53))⟩,
      ⟨some 91, none, .bin .add (.t 82) (.t 90)⟩,
      ⟨some 6, none, .mv (.t 91)⟩])
    (.seq (.ops [⟨some 92, none, .mv (.t 6)⟩,
      ⟨some 93, none, .mv (.t 6)⟩,
      ⟨some 94, none, .bin .quo (.t 93) (.k (.i .i64 64))⟩,
      ⟨some 95, none, .bin .xor (.t 92) (.t 94)⟩,
      ⟨some 6, none, .mv (.t 95)⟩])
    (.seq (.ops [⟨some 96, none, .mv (.t 6)⟩,
      ⟨some 97, none, .mv (.t 1)⟩,
      ⟨some 98, none, .bin .rem (.t 96) (.t 97)⟩,
      ⟨some 4, none, .mv (.t 98)⟩])
    (.ret))))))))
theorem k_spec_l20Rd_pick : chkF Tryd.prog Tryd.f15 99 c_spec_l20Rd_pick [.t 4] = true := by kernel_rfl
theorem call_spec_l20Rd_pick {args : List AV} {σ : List AB} {K : AV → List AB → Prop} (hn : args.length ≤ 99) (hw : wpC Tryd.prog σ.length 99 c_spec_l20Rd_pick (retP σ.length [.t 4] K) ⟨initT 0 args, σ⟩) : CallWp Tryd.prog n_spec_l20Rd_pick args σ K := call_fn mixed Tryd.func15 k_spec_l20Rd_pick hn hw
def c_spec_l20Mutate : LC := .seq (.ops [⟨some 4, none, .mv (.k (.s (bs [])))⟩])
    (.seq (.ops [⟨some 7, none, .mv (.t 0)⟩,
      ⟨some 8, none, .mv (.t 1)⟩,
      ⟨some 9, none, .slen (.t 8)⟩,
      ⟨some 10, none, .bin .add (.t 9) (.k (.i .i64 1))⟩,
      ⟨some 11, none, .call (.k (.fn n_spec_l20Rd_pick [] [])) [.t 7, .t 10]⟩,
      ⟨some 5, none, .mv (.t 11)⟩])
    (.seq (.ops [⟨some 12, none, .mv (.t 0)⟩,
      ⟨some 13, none, .call (.k (.fn n_spec_l20Rd_pick [] [])) [.t 12, .k (.i .i64 256)]⟩,
      ⟨some 14, none, .bsl ty_int [.i .i64 0] 5 [(0, 1, .k (.i .i64 32)), (1, 1, .k (.i .i64 48)), (2, 1, .k (.i .i64 49)), (3, 1, .k (.i .i64 116)), (4, 1, .t 13)]⟩,
      ⟨some 15, none, .mv (.t 0)⟩,
      ⟨some 16, none, .call (.k (.fn n_spec_l20Rd_pick [] [])) [.t 15, .k (.i .i64 5)]⟩,
      ⟨some 17, none, .ia 1 (.t 14) (.t 16)⟩,
      ⟨some 18, none, .ld (.t 17)⟩,
      ⟨some 19, none, .conv .u8 (.t 18)⟩,
      ⟨some 20, none, .bsl ty_uint8 [.i .u8 0] 1 [(0, 1, .t 19)]⟩,
      ⟨some 21, none, .cvb (.t 20)⟩,
      ⟨some 6, none, .mv (.t 21)⟩])
    (.join (.seq (.ops [⟨some 22, none, .mv (.t 0)⟩,
      ⟨some 23, none, .call (.k (.fn n_spec_l20Rd_pick [] [])) [.t 22, .k (.i .i64 3)]⟩])
    (.block 0 (.seq (.ops [⟨some 39, none, .bin .eql (.t 23) (.k (.i .i64 0))⟩,
      ⟨some 38, none, .mv (.t 39)⟩])
    (.cond (.t 38) (.seq (.draw 9 [⟨some 40, none, .mv (.t 1)⟩,
      ⟨some 41, none, .mv (.t 5)⟩,
      ⟨some 42, none, .sslc (.t 40) none (some (.t 41))⟩,
      ⟨some 43, none, .mv (.t 6)⟩,
      ⟨some 44, none, .sadd (.t 42) (.t 43)⟩,
      ⟨some 45, none, .mv (.t 1)⟩,
      ⟨some 46, none, .mv (.t 5)⟩,
      ⟨some 47, none, .sslc (.t 45) (some (.t 46)) none⟩,
      ⟨some 48, none, .sadd (.t 44) (.t 47)⟩,
      ⟨some 4, none, .mv (.t 48)⟩])
    (.ret))
    (.seq (.ops [⟨some 50, none, .bin .eql (.t 23) (.k (.i .i64 1))⟩,
      ⟨some 49, none, .mv (.t 50)⟩])
    (.cond (.t 49) (.seq (.ops [⟨some 51, none, .mv (.t 5)⟩,
      ⟨some 52, none, .mv (.t 1)⟩,
      ⟨some 53, none, .slen (.t 52)⟩,
      ⟨some 54, none, .bin .lss (.t 51) (.t 53)⟩])
    (.cond (.t 54) (.seq (.draw 8 [⟨some 55, none, .mv (.t 1)⟩,
      ⟨some 56, none, .mv (.t 5)⟩,
      ⟨some 57, none, .sslc (.t 55) none (some (.t 56))⟩,
      ⟨some 58, none, .mv (.t 1)⟩,
      ⟨some 59, none, .mv (.t 5)⟩,
      ⟨some 60, none, .bin .add (.t 59) (.k (.i .i64 1))⟩,
      ⟨some 61, none, .sslc (.t 58) (some (.t 60)) none⟩,
      ⟨some 62, none, .sadd (.t 57) (.t 61)⟩,
      ⟨some 4, none, .mv (.t 62)⟩])
    (.ret))
    (.skip)))
    (.seq (.ops [⟨some 24, none, .mv (.t 5)⟩,
      ⟨some 25, none, .mv (.t 1)⟩,
      ⟨some 26, none, .slen (.t 25)⟩,
      ⟨some 27, none, .bin .lss (.t 24) (.t 26)⟩])
    (.cond (.t 27) (.seq (.draw 10 [⟨some 28, none, .mv (.t 1)⟩,
      ⟨some 29, none, .mv (.t 5)⟩,
      ⟨some 30, none, .sslc (.t 28) none (some (.t 29))⟩,
      ⟨some 31, none, .mv (.t 6)⟩,
      ⟨some 32, none, .sadd (.t 30) (.t 31)⟩,
      ⟨some 33, none, .mv (.t 1)⟩,
      ⟨some 34, none, .mv (.t 5)⟩,
      ⟨some 35, none, .bin .add (.t 34) (.k (.i .i64 1))⟩,
      ⟨some 36, none, .sslc (.t 33) (some (.t 35)) none⟩,
      ⟨some 37, none, .sadd (.t 32) (.t 36)⟩,
      ⟨some 4, none, .mv (.t 37)⟩])
    (.ret))
    (.skip)))))))))
    (.seq (.ops [⟨some 63, none, .mv (.t 1)⟩,
      ⟨some 4, none, .mv (.t 63)⟩])
    (.ret)))))
theorem k_spec_l20Mutate : chkF Tryd.prog Tryd.f16 64 c_spec_l20Mutate [.t 4] = true := by kernel_rfl
theorem call_spec_l20Mutate {args : List AV} {σ : List AB} {K : AV → List AB → Prop} (hn : args.length ≤ 64) (hw : wpC Tryd.prog σ.length 64 c_spec_l20Mutate (retP σ.length [.t 4] K) ⟨initT 0 args, σ⟩) : CallWp Tryd.prog n_spec_l20Mutate args σ K := call_fn mixed Tryd.func16 k_spec_l20Mutate hn hw
def c_impl_ParseTask_1 : LC := .seq (.ops [⟨some 3, none, .mv (.k (.i .i64 0))⟩])
    (.seq (.ops [⟨some 7, none, .ld (.t 1)⟩,
      ⟨some 8, none, .mv (.t 0)⟩,
      ⟨some 9, none, .ia 1 (.t 7) (.t 8)⟩,
      ⟨some 10, none, .ld (.t 9)⟩,
      ⟨some 11, none, .call (.k (.fn n_strconv_Atoi [] [])) [.t 10]⟩,
      ⟨some 6, none, .mv (.t 11)⟩,
      ⟨some 12, none, .ext 0 (.t 6)⟩,
      ⟨some 13, none, .ext 1 (.t 6)⟩,
      ⟨some 4, none, .mv (.t 12)⟩,
      ⟨some 5, none, .mv (.t 13)⟩])
    (.seq (.seq (.ops [⟨some 14, none, .mv (.t 5)⟩,
      ⟨some 15, none, .inil true (.t 14)⟩])
    (.cond (.t 15) (.seq (.ops [⟨some 3, none, .mv (.k (.i .i64 0))⟩])
    (.ret))
    (.skip)))
    (.seq (.ops [⟨some 16, none, .mv (.t 4)⟩,
      ⟨some 3, none, .mv (.t 16)⟩])
    (.ret))))
theorem k_impl_ParseTask_1 : chkF Tryd.prog Tryd.f19 17 c_impl_ParseTask_1 [.t 3] = true := by kernel_rfl
theorem call_impl_ParseTask_1 {args : List AV} {σ : List AB} {K : AV → List AB → Prop} (hn : args.length ≤ 17) (hw : wpC Tryd.prog σ.length 17 c_impl_ParseTask_1 (retP σ.length [.t 3] K) ⟨initT 0 args, σ⟩) : CallWp Tryd.prog n_impl_ParseTask_1 args σ K := call_fn mixed Tryd.func19 k_impl_ParseTask_1 hn hw
def l0_spec_l10Fields : LC := .seq (.seq (.ops [⟨some 7, none, .mv (.t 5)⟩,
      ⟨some 8, none, .mv (.t 0)⟩,
      ⟨some 9, none, .slen (.t 8)⟩,
      ⟨some 10, none, .bin .lss (.t 7) (.t 9)⟩])
    (.cond (.t 10) (.skip)
    (.exit 0)))
    (.seq (.block 1 (.seq (.ops [⟨some 13, none, .mv (.t 0)⟩,
      ⟨some 14, none, .mv (.t 5)⟩,
      ⟨some 15, none, .sidx (.t 13) (.t 14)⟩,
      ⟨some 16, none, .bin .eql (.t 15) (.k (.i .u8 32))⟩])
    (.cond (.t 16) (.seq (.ops [⟨some 17, none, .mv (.t 3)⟩,
      ⟨some 18, none, .mv (.t 4)⟩,
      ⟨some 19, none, .bsl ty_string [.s .empty] 1 [(0, 1, .t 18)]⟩,
      ⟨some 20, none, .app ty_string 1 16 (.t 17) (.t 19)⟩,
      ⟨some 3, none, .mv (.t 20)⟩])
    (.ops [⟨some 4, none, .mv (.k (.s (bs [])))⟩]))
    (.ops [⟨some 21, none, .mv (.t 4)⟩,
      ⟨some 22, none, .mv (.t 0)⟩,
      ⟨some 23, none, .mv (.t 5)⟩,
      ⟨some 24, none, .mv (.t 5)⟩,
      ⟨some 25, none, .bin .add (.t 24) (.k (.i .i64 1))⟩,
      ⟨some 26, none, .sslc (.t 22) (some (.t 23)) (some (.t 25))⟩,
      ⟨some 27, none, .sadd (.t 21) (.t 26)⟩,
      ⟨some 4, none, .mv (.t 27)⟩]))))
    (.ops [⟨some 11, none, .mv (.t 5)⟩,
      ⟨some 12, none, .bin .add (.t 11) (.k (.i .i64 1))⟩,
      ⟨some 5, none, .mv (.t 12)⟩]))
def c_spec_l10Fields : LC := .seq (.ops [⟨some 2, none, .mv (.k (.sn))⟩])
    (.seq (.ops [⟨some 6, none, .bsl ty_string [.s .empty] 0 []⟩,
      ⟨some 3, none, .mv (.t 6)⟩])
    (.seq (.ops [⟨some 4, none, .mv (.k (.s (bs [])))⟩])
    (.seq (.seq (.ops [⟨some 5, none, .mv (.k (.i .i64 0))⟩])
    (.block 0 (.loop l0_spec_l10Fields)))
    (.seq (.ops [⟨some 28, none, .mv (.t 3)⟩,
      ⟨some 29, none, .mv (.t 4)⟩,
      ⟨some 30, none, .bsl ty_string [.s .empty] 1 [(0, 1, .t 29)]⟩,
      ⟨some 31, none, .app ty_string 1 16 (.t 28) (.t 30)⟩,
      ⟨some 2, none, .mv (.t 31)⟩])
    (.ret)))))
theorem k_spec_l10Fields : chkF Tryd.prog Tryd.f21 32 c_spec_l10Fields [.t 2] = true := by kernel_rfl
theorem call_spec_l10Fields {args : List AV} {σ : List AB} {K : AV → List AB → Prop} (hn : args.length ≤ 32) (hw : wpC Tryd.prog σ.length 32 c_spec_l10Fields (retP σ.length [.t 2] K) ⟨initT 0 args, σ⟩) : CallWp Tryd.prog n_spec_l10Fields args σ K := call_fn mixed Tryd.func21 k_spec_l10Fields hn hw
def l0_spec_l10Num : LC := .seq (.seq (.ops [⟨some 13, none, .mv (.t 4)⟩,
      ⟨some 14, none, .mv (.t 0)⟩,
      ⟨some 15, none, .slen (.t 14)⟩,
      ⟨some 16, none, .bin .lss (.t 13) (.t 15)⟩])
    (.cond (.t 16) (.skip)
    (.exit 0)))
    (.seq (.block 1 (.seq (.seq (.ops [⟨some 19, none, .mv (.t 0)⟩,
      ⟨some 20, none, .mv (.t 4)⟩,
      ⟨some 21, none, .sidx (.t 19) (.t 20)⟩,
      ⟨some 22, none, .bin .lss (.t 21) (.k (.i .u8 48))⟩,
      ⟨some 23, none, .mv (.t 22)⟩,
      ⟨some 24, (some (23, false)), .mv (.t 0)⟩,
      ⟨some 25, (some (23, false)), .mv (.t 4)⟩,
      ⟨some 26, (some (23, false)), .sidx (.t 24) (.t 25)⟩,
      ⟨some 27, (some (23, false)), .bin .gtr (.t 26) (.k (.i .u8 57))⟩,
      ⟨some 28, none, .pick (.t 23) (.k (.b true)) (.t 27)⟩])
    (.cond (.t 28) (.seq (.ops [⟨some 2, none, .mv (.k (.i .i64 (-1)))⟩])
    (.ret))
    (.skip)))
    (.ops [⟨some 29, none, .mv (.t 3)⟩,
      ⟨some 30, none, .bin .mul (.t 29) (.k (.i .i64 10))⟩,
      ⟨some 31, none, .mv (.t 0)⟩,
      ⟨some 32, none, .mv (.t 4)⟩,
      ⟨some 33, none, .sidx (.t 31) (.t 32)⟩,
      ⟨some 34, none, .bin .sub (.t 33) (.k (.i .u8 48))⟩,
      ⟨some 35, none, .conv .i64 (.t 34)⟩,
      ⟨some 36, none, .bin .add (.t 30) (.t 35)⟩,
      ⟨some 3, none, .mv (.t 36)⟩])))
    (.ops [⟨some 17, none, .mv (.t 4)⟩,
      ⟨some 18, none, .bin .add (.t 17) (.k (.i .i64 1))⟩,
      ⟨some 4, none, .mv (.t 18)⟩]))
def c_spec_l10Num : LC := .seq (.ops [⟨some 2, none, .mv (.k (.i .i64 0))⟩])
    (.seq (.seq (.ops [⟨some 5, none, .mv (.t 0)⟩,
      ⟨some 6, none, .slen (.t 5)⟩,
      ⟨some 7, none, .bin .eql (.t 6) (.k (.i .i64 0))⟩,
      ⟨some 8, none, .mv (.t 7)⟩,
      ⟨some 9, (some (8, false)), .mv (.t 0)⟩,
      ⟨some 10, (some (8, false)), .slen (.t 9)⟩,
      ⟨some 11, (some (8, false)), .bin .gtr (.t 10) (.k (.i .i64 2))⟩,
      ⟨some 12, none, .pick (.t 8) (.k (.b true)) (.t 11)⟩])
    (.cond (.t 12) (.seq (.ops [⟨some 2, none, .mv (.k (.i .i64 (-1)))⟩])
    (.ret))
    (.skip)))
    (.seq (.ops [⟨some 3, none, .mv (.k (.i .i64 0))⟩])
    (.seq (.seq (.ops [⟨some 4, none, .mv (.k (.i .i64 0))⟩])
    (.block 0 (.loop l0_spec_l10Num)))
    (.seq (.seq (.ops [⟨some 37, none, .mv (.t 3)⟩,
      ⟨some 38, none, .call (.k (.fn n_spec_l10Plain [] [])) [.t 37]⟩,
      ⟨some 39, none, .mv (.t 0)⟩,
      ⟨some 40, none, .scmp true (.t 38) (.t 39)⟩])
    (.cond (.t 40) (.seq (.ops [⟨some 2, none, .mv (.k (.i .i64 (-1)))⟩])
    (.ret))
    (.skip)))
    (.seq (.ops [⟨some 41, none, .mv (.t 3)⟩,
      ⟨some 2, none, .mv (.t 41)⟩])
    (.ret))))))
theorem k_spec_l10Num : chkF Tryd.prog Tryd.f22 42 c_spec_l10Num [.t 2] = true := by kernel_rfl
theorem call_spec_l10Num {args : List AV} {σ : List AB} {K : AV → List AB → Prop} (hn : args.length ≤ 42) (hw : wpC Tryd.prog σ.length 42 c_spec_l10Num (retP σ.length [.t 2] K) ⟨initT 0 args, σ⟩) : CallWp Tryd.prog n_spec_l10Num args σ K := call_fn mixed Tryd.func22 k_spec_l10Num hn hw
def l0_spec_l10Plain : LC := .seq (.seq (.ops [⟨some 4, none, .mv (.t 0)⟩,
      ⟨some 5, none, .bin .gtr (.t 4) (.k (.i .i64 9))⟩])
    (.cond (.t 5) (.skip)
    (.exit 0)))
    (.block 1 (.seq (.ops [⟨some 6, none, .mv (.t 0)⟩,
      ⟨some 7, none, .bin .rem (.t 6) (.k (.i .i64 10))⟩,
      ⟨some 8, none, .bin .add (.k (.i .i64 48)) (.t 7)⟩,
      ⟨some 9, none, .conv .u8 (.t 8)⟩,
      ⟨some 10, none, .bsl ty_uint8 [.i .u8 0] 1 [(0, 1, .t 9)]⟩,
      ⟨some 11, none, .cvb (.t 10)⟩,
      ⟨some 12, none, .mv (.t 3)⟩,
      ⟨some 13, none, .sadd (.t 11) (.t 12)⟩,
      ⟨some 3, none, .mv (.t 13)⟩])
    (.ops [⟨some 14, none, .mv (.t 0)⟩,
      ⟨some 15, none, .bin .quo (.t 14) (.k (.i .i64 10))⟩,
      ⟨some 0, none, .mv (.t 15)⟩])))
def c_spec_l10Plain : LC := .seq (.ops [⟨some 2, none, .mv (.k (.s (bs [])))⟩])
    (.seq (.ops [⟨some 3, none, .mv (.k (.s (bs [])))⟩])
    (.seq (.block 0 (.loop l0_spec_l10Plain))
    (.seq (.ops [⟨some 16, none, .mv (.t 0)⟩,
      ⟨some 17, none, .bin .add (.k (.i .i64 48)) (.t 16)⟩,
      ⟨some 18, none, .conv .u8 (.t 17)⟩,
      ⟨some 19, none, .bsl ty_uint8 [.i .u8 0] 1 [(0, 1, .t 18)]⟩,
      ⟨some 20, none, .cvb (.t 19)⟩,
      ⟨some 21, none, .mv (.t 3)⟩,
      ⟨some 22, none, .sadd (.t 20) (.t 21)⟩,
      ⟨some 2, none, .mv (.t 22)⟩])
    (.ret))))
theorem k_spec_l10Plain : chkF Tryd.prog Tryd.f23 23 c_spec_l10Plain [.t 2] = true := by kernel_rfl
theorem call_spec_l10Plain {args : List AV} {σ : List AB} {K : AV → List AB → Prop} (hn : args.length ≤ 23) (hw : wpC Tryd.prog σ.length 23 c_spec_l10Plain (retP σ.length [.t 2] K) ⟨initT 0 args, σ⟩) : CallWp Tryd.prog n_spec_l10Plain args σ K := call_fn mixed Tryd.func23 k_spec_l10Plain hn hw
def c_impl_in : LC := .seq (.ops [⟨some 6, none, .mv (.k (.b false))⟩])
    (.seq (.ops [⟨some 7, none, .mv (.t 0)⟩,
      ⟨some 8, none, .mv (.t 1)⟩,
      ⟨some 9, none, .bin .geq (.t 7) (.t 8)⟩,
      ⟨some 10, none, .mv (.t 9)⟩,
      ⟨some 11, (some (10, true)), .mv (.t 0)⟩,
      ⟨some 12, (some (10, true)), .mv (.t 2)⟩,
      ⟨some 13, (some (10, true)), .bin .leq (.t 11) (.t 12)⟩,
      ⟨some 14, none, .pick (.t 10) (.t 13) (.k (.b false))⟩,
      ⟨some 6, none, .mv (.t 14)⟩])
    (.ret))
theorem k_impl_in : chkF Tryd.prog Tryd.f24 15 c_impl_in [.t 6] = true := by kernel_rfl
theorem call_impl_in {args : List AV} {σ : List AB} {K : AV → List AB → Prop} (hn : args.length ≤ 15) (hw : wpC Tryd.prog σ.length 15 c_impl_in (retP σ.length [.t 6] K) ⟨initT 0 args, σ⟩) : CallWp Tryd.prog n_impl_in args σ K := call_fn mixed Tryd.func24 k_impl_in hn hw
def c_spec_l1In : LC := .seq (.ops [⟨some 6, none, .mv (.k (.b false))⟩])
    (.seq (.ops [⟨some 7, none, .mv (.t 0)⟩,
      ⟨some 8, none, .mv (.t 1)⟩,
      ⟨some 9, none, .bin .geq (.t 7) (.t 8)⟩,
      ⟨some 10, none, .mv (.t 9)⟩,
      ⟨some 11, (some (10, true)), .mv (.t 0)⟩,
      ⟨some 12, (some (10, true)), .mv (.t 2)⟩,
      ⟨some 13, (some (10, true)), .bin .leq (.t 11) (.t 12)⟩,
      ⟨some 14, none, .pick (.t 10) (.t 13) (.k (.b false))⟩,
      ⟨some 6, none, .mv (.t 14)⟩])
    (.ret))
theorem k_spec_l1In : chkF Tryd.prog Tryd.f25 15 c_spec_l1In [.t 6] = true := by kernel_rfl
theorem call_spec_l1In {args : List AV} {σ : List AB} {K : AV → List AB → Prop} (hn : args.length ≤ 15) (hw : wpC Tryd.prog σ.length 15 c_spec_l1In (retP σ.length [.t 6] K) ⟨initT 0 args, σ⟩) : CallWp Tryd.prog n_spec_l1In args σ K := call_fn mixed Tryd.func25 k_spec_l1In hn hw
def c_spec_l20Rd_odd : LC := .seq (.ops [⟨some 4, none, .mv (.k (.b false))⟩])
    (.seq (.ops [⟨some 5, none, .mv (.t 1)⟩,
      ⟨some 6, none, .bin .gtr (.t 5) (.k (.i .i64 0))⟩,
      ⟨some 7, none, .mv (.t 6)⟩,
      ⟨some 8, (some (7, true)), .mv (.t 0)⟩,
      ⟨some 9, (some (7, true)), .mv (.t 1)⟩,
      ⟨some 10, (some (7, true)), .call (.k (.fn n_spec_l20Rd_pick [] [])) [.t 8, .t 9]⟩,
      ⟨some 11, (some (7, true)), .mv (.t 1)⟩,
      ⟨some 12, (some (7, true)), .bin .sub (.t 11) (.k (.i .i64 1))⟩,
      ⟨some 13, (some (7, true)), .bin .eql (.t 10) (.t 12)⟩,
      ⟨some 14, none, .pick (.t 7) (.t 13) (.k (.b false))⟩,
      ⟨some 4, none, .mv (.t 14)⟩])
    (.ret))
theorem k_spec_l20Rd_odd : chkF Tryd.prog Tryd.f26 15 c_spec_l20Rd_odd [.t 4] = true := by kernel_rfl
theorem call_spec_l20Rd_odd {args : List AV} {σ : List AB} {K : AV → List AB → Prop} (hn : args.length ≤ 15) (hw : wpC Tryd.prog σ.length 15 c_spec_l20Rd_odd (retP σ.length [.t 4] K) ⟨initT 0 args, σ⟩) : CallWp Tryd.prog n_spec_l20Rd_odd args σ K := call_fn mixed Tryd.func26 k_spec_l20Rd_odd hn hw
end Go.Proofs.YtfngcejaphhmmaaDoor
