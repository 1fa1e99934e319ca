import Derived.Test.YtfngcejaphhmmaaProg
import Derived.Test.YtfngcejaphhmmaaAbsY
import Derived.KernelRfl
namespace Go.Proofs.Ytfngcejaphhmmaa
open Go.Abs
set_option maxRecDepth 100000
theorem mixed : Try.prog.follows .mixedOrders = true := by kernel_rfl
abbrev n_laws_FnWcetTight : Nat := 10
abbrev n_laws_sameInts : Nat := 14
abbrev n_laws_alive : Nat := 17
abbrev n_spec_DrawWorstChoices : Nat := 37
abbrev n_impl_WorstChoices : Nat := 38
abbrev n_spec_WorstChoices : Nat := 39
abbrev n_spec_ProgramValid : Nat := 40
abbrev n_impl_RunProgram : Nat := 41
abbrev n_impl_Wcet : Nat := 42
abbrev n_spec_Wcet : Nat := 43
abbrev n_impl_Bcet : Nat := 44
abbrev n_spec_Bcet : Nat := 45
abbrev n_spec_l20Open : Nat := 47
abbrev n_impl_TaskValid : Nat := 54
abbrev n_impl_in : Nat := 55
abbrev n_spec_l1In : Nat := 63
abbrev n_spec_l20Prog : Nat := 74
abbrev n_impl_ProgramValid : Nat := 75
abbrev n_impl_worst : Nat := 76
abbrev n_impl_execute : Nat := 77
abbrev n_impl_WorstChoices_1 : Nat := 78
abbrev n_impl_clone_int : Nat := 79
abbrev n_spec_l8Worst : Nat := 80
abbrev n_spec_l8Costs : Nat := 81
abbrev n_spec_l8Node : Nat := 82
abbrev n_impl_RunProgram_1 : Nat := 83
abbrev n_spec_l20Rd_pick : Nat := 84
abbrev n_spec_l20Rd_odd : Nat := 86
abbrev n_slices_Clip_int : Nat := 109
abbrev n_impl_nodeValid : Nat := 110
abbrev n_slices_Clone_int : Nat := 111
abbrev ty_int : Nat := 3
abbrev ty_sl_int : Nat := 25
abbrev ty_impl_Task : Nat := 43
abbrev ty_sl_impl_Node : Nat := 52
abbrev ty_impl_Node : Nat := 83
abbrev ty_spec_l20Rd : Nat := 92
def c_laws_FnWcetTight : LC := .seq (.ops [⟨some 2, none, .mv (.k (.b false))⟩])
    (.seq (.seq (.ops [⟨some 5, none, .mv (.t 0)⟩,
      ⟨some 6, none, .len (.t 5)⟩,
      ⟨some 7, none, .bin .gtr (.t 6) (.k (.i .i64 1048576))⟩])
    (.cond (.t 7) (.seq (.ops [⟨some 2, none, .mv (.k (.b true))⟩])
    (.ret))
    (.skip)))
    (.seq (.ops [⟨some 8, none, .mv (.t 0)⟩,
      ⟨some 9, none, .call (.k (.fn n_spec_DrawWorstChoices [] [])) [.t 8]⟩,
      ⟨some 3, none, .mv (.t 9)⟩])
    (.seq (.ops [⟨some 10, none, .mv (.t 3)⟩,
      ⟨some 11, none, .call (.k (.fn n_impl_WorstChoices [] [])) [.t 10]⟩,
      ⟨some 4, none, .mv (.t 11)⟩])
    (.seq (.seq (.ops [⟨some 12, none, .mv (.t 4)⟩,
      ⟨some 13, none, .mv (.t 3)⟩,
      ⟨some 14, none, .call (.k (.fn n_spec_WorstChoices [] [])) [.t 13]⟩,
      ⟨some 15, none, .call (.k (.fn n_laws_sameInts [] [])) [.t 12, .t 14]⟩,
      ⟨some 16, none, .not (.t 15)⟩])
    (.cond (.t 16) (.seq (.ops [⟨some 2, none, .mv (.k (.b false))⟩])
    (.ret))
    (.skip)))
    (.seq (.seq (.ops [⟨some 17, none, .mv (.t 3)⟩,
      ⟨some 18, none, .call (.k (.fn n_spec_ProgramValid [] [])) [.t 17]⟩,
      ⟨some 19, none, .not (.t 18)⟩])
    (.cond (.t 19) (.seq (.ops [⟨some 20, none, .mv (.t 4)⟩,
      ⟨some 21, none, .len (.t 20)⟩,
      ⟨some 22, none, .bin .eql (.t 21) (.k (.i .i64 0))⟩,
      ⟨some 23, none, .mv (.t 22)⟩,
      ⟨some 24, (some (23, true)), .call (.k (.fn n_laws_alive [] [])) []⟩,
      ⟨some 25, none, .pick (.t 23) (.t 24) (.k (.b false))⟩,
      ⟨some 2, none, .mv (.t 25)⟩])
    (.ret))
    (.skip)))
    (.seq (.ops [⟨some 26, none, .mv (.t 3)⟩,
      ⟨some 27, none, .mv (.t 4)⟩,
      ⟨some 28, none, .call (.k (.fn n_impl_RunProgram [] [])) [.t 26, .t 27]⟩,
      ⟨some 29, none, .mv (.t 3)⟩,
      ⟨some 30, none, .call (.k (.fn n_impl_Wcet [] [])) [.t 29]⟩,
      ⟨some 31, none, .bin .eql (.t 28) (.t 30)⟩,
      ⟨some 32, none, .mv (.t 31)⟩,
      ⟨some 33, (some (32, true)), .mv (.t 3)⟩,
      ⟨some 34, (some (32, true)), .call (.k (.fn n_impl_Wcet [] [])) [.t 33]⟩,
      ⟨some 35, (some (32, true)), .mv (.t 3)⟩,
      ⟨some 36, (some (32, true)), .call (.k (.fn n_spec_Wcet [] [])) [.t 35]⟩,
      ⟨some 37, (some (32, true)), .bin .eql (.t 34) (.t 36)⟩,
      ⟨some 38, none, .pick (.t 32) (.t 37) (.k (.b false))⟩,
      ⟨some 39, none, .mv (.t 38)⟩,
      ⟨some 40, (some (39, true)), .mv (.t 3)⟩,
      ⟨some 41, (some (39, true)), .call (.k (.fn n_impl_Bcet [] [])) [.t 40]⟩,
      ⟨some 42, (some (39, true)), .mv (.t 3)⟩,
      ⟨some 43, (some (39, true)), .call (.k (.fn n_spec_Bcet [] [])) [.t 42]⟩,
      ⟨some 44, (some (39, true)), .bin .eql (.t 41) (.t 43)⟩,
      ⟨some 45, none, .pick (.t 39) (.t 44) (.k (.b false))⟩,
      ⟨some 2, none, .mv (.t 45)⟩])
    (.ret)))))))
theorem k_laws_FnWcetTight : chkF Try.prog Try.f10 46 c_laws_FnWcetTight [.t 2] = true := by kernel_rfl
theorem call_laws_FnWcetTight {args : List AV} {σ : List AB} {K : AV → List AB → Prop} (hn : args.length ≤ 46) (hw : wpC Try.prog σ.length 46 c_laws_FnWcetTight (retP σ.length [.t 2] K) ⟨initT 0 args, σ⟩) : CallWp Try.prog n_laws_FnWcetTight args σ K := call_fn mixed Try.func10 k_laws_FnWcetTight hn hw
def l0_laws_sameInts : LC := .seq (.seq (.ops [⟨some 11, none, .mv (.t 5)⟩,
      ⟨some 12, none, .mv (.t 0)⟩,
      ⟨some 13, none, .len (.t 12)⟩,
      ⟨some 14, none, .bin .lss (.t 11) (.t 13)⟩])
    (.cond (.t 14) (.skip)
    (.exit 0)))
    (.seq (.block 1 (.seq (.draw 9 [⟨some 17, none, .mv (.t 0)⟩,
      ⟨some 18, none, .mv (.t 5)⟩,
      ⟨some 19, none, .ia 1 (.t 17) (.t 18)⟩,
      ⟨some 20, none, .ld (.t 19)⟩,
      ⟨some 21, none, .mv (.t 1)⟩,
      ⟨some 22, none, .mv (.t 5)⟩,
      ⟨some 23, none, .ia 1 (.t 21) (.t 22)⟩,
      ⟨some 24, none, .ld (.t 23)⟩,
      ⟨some 25, none, .bin .neq (.t 20) (.t 24)⟩])
    (.cond (.t 25) (.seq (.ops [⟨some 4, none, .mv (.k (.b false))⟩])
    (.ret))
    (.skip))))
    (.ops [⟨some 15, none, .mv (.t 5)⟩,
      ⟨some 16, none, .bin .add (.t 15) (.k (.i .i64 1))⟩,
      ⟨some 5, none, .mv (.t 16)⟩]))
def c_laws_sameInts : LC := .seq (.ops [⟨some 4, none, .mv (.k (.b false))⟩])
    (.seq (.seq (.ops [⟨some 6, none, .mv (.t 0)⟩,
      ⟨some 7, none, .len (.t 6)⟩,
      ⟨some 8, none, .mv (.t 1)⟩,
      ⟨some 9, none, .len (.t 8)⟩,
      ⟨some 10, none, .bin .neq (.t 7) (.t 9)⟩])
    (.cond (.t 10) (.seq (.ops [⟨some 4, none, .mv (.k (.b false))⟩])
    (.ret))
    (.skip)))
    (.seq (.seq (.ops [⟨some 5, none, .mv (.k (.i .i64 0))⟩])
    (.block 0 (.loop l0_laws_sameInts)))
    (.seq (.ops [⟨some 4, none, .mv (.k (.b true))⟩])
    (.ret))))
theorem k_laws_sameInts : chkF Try.prog Try.f14 26 c_laws_sameInts [.t 4] = true := by kernel_rfl
theorem call_laws_sameInts {args : List AV} {σ : List AB} {K : AV → List AB → Prop} (hn : args.length ≤ 26) (hw : wpC Try.prog σ.length 26 c_laws_sameInts (retP σ.length [.t 4] K) ⟨initT 0 args, σ⟩) : CallWp Try.prog n_laws_sameInts args σ K := call_fn mixed Try.func14 k_laws_sameInts hn hw
def c_laws_alive : LC := .seq (.ops [⟨some 0, none, .mv (.k (.b false))⟩])
    (.seq (.ops [⟨some 1, none, .build [.i .i64 0, .i .i64 0, .i .i64 0] [(0, 1, .k (.i .i64 1)), (1, 1, .k (.i .i64 1)), (2, 1, .k (.i .i64 1))]⟩,
      ⟨some 2, none, .call (.k (.fn n_impl_TaskValid [] [])) [.t 1]⟩,
      ⟨some 0, none, .mv (.t 2)⟩])
    (.ret))
theorem k_laws_alive : chkF Try.prog Try.f17 3 c_laws_alive [.t 0] = true := by kernel_rfl
theorem call_laws_alive {args : List AV} {σ : List AB} {K : AV → List AB → Prop} (hn : args.length ≤ 3) (hw : wpC Try.prog σ.length 3 c_laws_alive (retP σ.length [.t 0] K) ⟨initT 0 args, σ⟩) : CallWp Try.prog n_laws_alive args σ K := call_fn mixed Try.func17 k_laws_alive hn hw
def c_spec_DrawWorstChoices : LC := .seq (.ops [⟨some 2, none, .mv (.k (.sn))⟩])
    (.seq (.ops [⟨some 3, none, .mv (.t 0)⟩,
      ⟨some 4, none, .call (.k (.fn n_spec_l20Open [] [])) [.t 3]⟩,
      ⟨some 5, none, .call (.k (.fn n_spec_l20Prog [] [])) [.t 4, .k (.i .i64 9)]⟩,
      ⟨some 2, none, .mv (.t 5)⟩])
    (.ret))
theorem k_spec_DrawWorstChoices : chkF Try.prog Try.f37 6 c_spec_DrawWorstChoices [.t 2] = true := by kernel_rfl
theorem call_spec_DrawWorstChoices {args : List AV} {σ : List AB} {K : AV → List AB → Prop} (hn : args.length ≤ 6) (hw : wpC Try.prog σ.length 6 c_spec_DrawWorstChoices (retP σ.length [.t 2] K) ⟨initT 0 args, σ⟩) : CallWp Try.prog n_spec_DrawWorstChoices args σ K := call_fn mixed Try.func37 k_spec_DrawWorstChoices hn hw
def c_impl_WorstChoices : LC := .seq (.ops [⟨some 1, none, .box ty_sl_impl_Node (.t 0)⟩,
      ⟨some 2, none, .mv (.k (.sn))⟩])
    (.seq (.seq (.ops [⟨some 5, none, .ld (.t 1)⟩,
      ⟨some 6, none, .call (.k (.fn n_impl_ProgramValid [] [])) [.t 5]⟩,
      ⟨some 7, none, .not (.t 6)⟩])
    (.cond (.t 7) (.seq (.ops [⟨some 2, none, .mv (.k (.sn))⟩])
    (.ret))
    (.skip)))
    (.seq (.ops [⟨some 8, none, .ld (.t 1)⟩,
      ⟨some 9, none, .call (.k (.fn n_impl_worst [] [])) [.t 8]⟩,
      ⟨some 3, none, .alloc ty_sl_int [.sn]⟩,
      ⟨none, none, .st 1 (.t 3) (.t 9)⟩])
    (.seq (.ops [⟨some 4, none, .alloc ty_sl_int [.sn]⟩])
    (.seq (.ops [⟨some 10, none, .ld (.t 1)⟩,
      ⟨some 11, none, .ld (.t 1)⟩,
      ⟨some 12, none, .len (.t 11)⟩,
      ⟨some 13, none, .bin .sub (.t 12) (.k (.i .i64 1))⟩,
      ⟨some 14, none, .mkf n_impl_WorstChoices_1 [] [.t 1, .t 3, .t 4]⟩,
      ⟨some 15, none, .call (.k (.fn n_impl_execute [] [])) [.t 10, .t 13, .t 14]⟩])
    (.seq (.ops [⟨some 16, none, .ld (.t 4)⟩,
      ⟨some 17, none, .call (.k (.fn n_impl_clone_int [] [])) [.t 16]⟩,
      ⟨some 2, none, .mv (.t 17)⟩])
    (.ret))))))
theorem k_impl_WorstChoices : chkF Try.prog Try.f38 18 c_impl_WorstChoices [.t 2] = true := by kernel_rfl
theorem call_impl_WorstChoices {args : List AV} {σ : List AB} {K : AV → List AB → Prop} (hn : args.length ≤ 18) (hw : wpC Try.prog σ.length 18 c_impl_WorstChoices (retP σ.length [.t 2] K) ⟨initT 0 args, σ⟩) : CallWp Try.prog n_impl_WorstChoices args σ K := call_fn mixed Try.func38 k_impl_WorstChoices hn hw
def c_spec_WorstChoices : LC := .seq (.ops [⟨some 2, none, .mv (.k (.sn))⟩])
    (.seq (.seq (.ops [⟨some 3, none, .mv (.t 0)⟩,
      ⟨some 4, none, .call (.k (.fn n_spec_ProgramValid [] [])) [.t 3]⟩,
      ⟨some 5, none, .not (.t 4)⟩])
    (.cond (.t 5) (.seq (.ops [⟨some 6, none, .bsl ty_int [.i .i64 0] 0 []⟩,
      ⟨some 2, none, .mv (.t 6)⟩])
    (.ret))
    (.skip)))
    (.seq (.ops [⟨some 7, none, .mv (.t 0)⟩,
      ⟨some 8, none, .mv (.t 0)⟩,
      ⟨some 9, none, .call (.k (.fn n_spec_l8Costs [] [])) [.t 8, .k (.b true)]⟩,
      ⟨some 10, none, .mv (.t 0)⟩,
      ⟨some 11, none, .len (.t 10)⟩,
      ⟨some 12, none, .bin .sub (.t 11) (.k (.i .i64 1))⟩,
      ⟨some 13, none, .call (.k (.fn n_spec_l8Worst [] [])) [.t 7, .t 9, .t 12]⟩,
      ⟨some 2, none, .mv (.t 13)⟩])
    (.ret)))
theorem k_spec_WorstChoices : chkF Try.prog Try.f39 14 c_spec_WorstChoices [.t 2] = true := by kernel_rfl
theorem call_spec_WorstChoices {args : List AV} {σ : List AB} {K : AV → List AB → Prop} (hn : args.length ≤ 14) (hw : wpC Try.prog σ.length 14 c_spec_WorstChoices (retP σ.length [.t 2] K) ⟨initT 0 args, σ⟩) : CallWp Try.prog n_spec_WorstChoices args σ K := call_fn mixed Try.func39 k_spec_WorstChoices hn hw
def l0_spec_ProgramValid : LC := .seq (.seq (.ops [⟨some 8, none, .mv (.t 3)⟩,
      ⟨some 9, none, .mv (.t 0)⟩,
      ⟨some 10, none, .len (.t 9)⟩,
      ⟨some 11, none, .bin .lss (.t 8) (.t 10)⟩])
    (.cond (.t 11) (.skip)
    (.exit 0)))
    (.seq (.block 1 (.seq (.ops [⟨some 14, none, .mv (.t 0)⟩,
      ⟨some 15, none, .mv (.t 3)⟩,
      ⟨some 16, none, .ia 5 (.t 14) (.t 15)⟩,
      ⟨some 17, none, .ldn 5 (.t 16)⟩,
      ⟨some 18, none, .mv (.t 3)⟩,
      ⟨some 19, none, .call (.k (.fn n_spec_l8Node [] [])) [.t 17, .t 18]⟩,
      ⟨some 20, none, .not (.t 19)⟩])
    (.cond (.t 20) (.seq (.ops [⟨some 2, none, .mv (.k (.b false))⟩])
    (.ret))
    (.skip))))
    (.ops [⟨some 12, none, .mv (.t 3)⟩,
      ⟨some 13, none, .bin .add (.t 12) (.k (.i .i64 1))⟩,
      ⟨some 3, none, .mv (.t 13)⟩]))
def c_spec_ProgramValid : LC := .seq (.ops [⟨some 2, none, .mv (.k (.b false))⟩])
    (.seq (.seq (.ops [⟨some 4, none, .mv (.t 0)⟩,
      ⟨some 5, none, .len (.t 4)⟩,
      ⟨some 6, none, .call (.k (.fn n_spec_l1In [] [])) [.t 5, .k (.i .i64 1), .k (.i .i64 12)]⟩,
      ⟨some 7, none, .not (.t 6)⟩])
    (.cond (.t 7) (.seq (.ops [⟨some 2, none, .mv (.k (.b false))⟩])
    (.ret))
    (.skip)))
    (.seq (.seq (.ops [⟨some 3, none, .mv (.k (.i .i64 0))⟩])
    (.block 0 (.loop l0_spec_ProgramValid)))
    (.seq (.ops [⟨some 21, none, .mv (.t 0)⟩,
      ⟨some 22, none, .call (.k (.fn n_spec_l8Costs [] [])) [.t 21, .k (.b true)]⟩,
      ⟨some 23, none, .mv (.t 0)⟩,
      ⟨some 24, none, .len (.t 23)⟩,
      ⟨some 25, none, .bin .sub (.t 24) (.k (.i .i64 1))⟩,
      ⟨some 26, none, .ia 1 (.t 22) (.t 25)⟩,
      ⟨some 27, none, .ld (.t 26)⟩,
      ⟨some 28, none, .bin .leq (.t 27) (.k (.i .i64 600))⟩,
      ⟨some 2, none, .mv (.t 28)⟩])
    (.ret))))
theorem k_spec_ProgramValid : chkF Try.prog Try.f40 29 c_spec_ProgramValid [.t 2] = true := by kernel_rfl
theorem call_spec_ProgramValid {args : List AV} {σ : List AB} {K : AV → List AB → Prop} (hn : args.length ≤ 29) (hw : wpC Try.prog σ.length 29 c_spec_ProgramValid (retP σ.length [.t 2] K) ⟨initT 0 args, σ⟩) : CallWp Try.prog n_spec_ProgramValid args σ K := call_fn mixed Try.func40 k_spec_ProgramValid hn hw
def c_impl_RunProgram : LC := .seq (.ops [⟨some 3, none, .box ty_sl_int (.t 1)⟩,
      ⟨some 4, none, .mv (.k (.i .i64 0))⟩])
    (.seq (.seq (.ops [⟨some 5, none, .mv (.t 0)⟩,
      ⟨some 6, none, .call (.k (.fn n_impl_ProgramValid [] [])) [.t 5]⟩,
      ⟨some 7, none, .not (.t 6)⟩])
    (.cond (.t 7) (.seq (.ops [⟨some 4, none, .mv (.k (.i .i64 (-1)))⟩])
    (.ret))
    (.skip)))
    (.seq (.ops [⟨some 8, none, .mv (.t 0)⟩,
      ⟨some 9, none, .mv (.t 0)⟩,
      ⟨some 10, none, .len (.t 9)⟩,
      ⟨some 11, none, .bin .sub (.t 10) (.k (.i .i64 1))⟩,
      ⟨some 12, none, .mkf n_impl_RunProgram_1 [] [.t 3]⟩,
      ⟨some 13, none, .call (.k (.fn n_impl_execute [] [])) [.t 8, .t 11, .t 12]⟩,
      ⟨some 4, none, .mv (.t 13)⟩])
    (.ret)))
theorem k_impl_RunProgram : chkF Try.prog Try.f41 14 c_impl_RunProgram [.t 4] = true := by kernel_rfl
theorem call_impl_RunProgram {args : List AV} {σ : List AB} {K : AV → List AB → Prop} (hn : args.length ≤ 14) (hw : wpC Try.prog σ.length 14 c_impl_RunProgram (retP σ.length [.t 4] K) ⟨initT 0 args, σ⟩) : CallWp Try.prog n_impl_RunProgram args σ K := call_fn mixed Try.func41 k_impl_RunProgram hn hw
theorem ent_impl_RunProgram : Enters Try.prog n_impl_RunProgram := enters_of Try.func41 k_impl_RunProgram
def c_impl_Wcet : LC := .seq (.ops [⟨some 2, none, .mv (.k (.i .i64 0))⟩])
    (.seq (.seq (.ops [⟨some 3, none, .mv (.t 0)⟩,
      ⟨some 4, none, .call (.k (.fn n_impl_ProgramValid [] [])) [.t 3]⟩,
      ⟨some 5, none, .not (.t 4)⟩])
    (.cond (.t 5) (.seq (.ops [⟨some 2, none, .mv (.k (.i .i64 (-1)))⟩])
    (.ret))
    (.skip)))
    (.seq (.ops [⟨some 6, none, .mv (.t 0)⟩,
      ⟨some 7, none, .call (.k (.fn n_impl_worst [] [])) [.t 6]⟩,
      ⟨some 8, none, .mv (.t 0)⟩,
      ⟨some 9, none, .len (.t 8)⟩,
      ⟨some 10, none, .bin .sub (.t 9) (.k (.i .i64 1))⟩,
      ⟨some 11, none, .ia 1 (.t 7) (.t 10)⟩,
      ⟨some 12, none, .ld (.t 11)⟩,
      ⟨some 2, none, .mv (.t 12)⟩])
    (.ret)))
theorem k_impl_Wcet : chkF Try.prog Try.f42 13 c_impl_Wcet [.t 2] = true := by kernel_rfl
theorem call_impl_Wcet {args : List AV} {σ : List AB} {K : AV → List AB → Prop} (hn : args.length ≤ 13) (hw : wpC Try.prog σ.length 13 c_impl_Wcet (retP σ.length [.t 2] K) ⟨initT 0 args, σ⟩) : CallWp Try.prog n_impl_Wcet args σ K := call_fn mixed Try.func42 k_impl_Wcet hn hw
def c_spec_Wcet : LC := .seq (.ops [⟨some 2, none, .mv (.k (.i .i64 0))⟩])
    (.seq (.seq (.ops [⟨some 3, none, .mv (.t 0)⟩,
      ⟨some 4, none, .call (.k (.fn n_spec_ProgramValid [] [])) [.t 3]⟩,
      ⟨some 5, none, .not (.t 4)⟩])
    (.cond (.t 5) (.seq (.ops [⟨some 2, none, .mv (.k (.i .i64 (-1)))⟩])
    (.ret))
    (.skip)))
    (.seq (.ops [⟨some 6, none, .mv (.t 0)⟩,
      ⟨some 7, none, .call (.k (.fn n_spec_l8Costs [] [])) [.t 6, .k (.b true)]⟩,
      ⟨some 8, none, .mv (.t 0)⟩,
      ⟨some 9, none, .len (.t 8)⟩,
      ⟨some 10, none, .bin .sub (.t 9) (.k (.i .i64 1))⟩,
      ⟨some 11, none, .ia 1 (.t 7) (.t 10)⟩,
      ⟨some 12, none, .ld (.t 11)⟩,
      ⟨some 2, none, .mv (.t 12)⟩])
    (.ret)))
theorem k_spec_Wcet : chkF Try.prog Try.f43 13 c_spec_Wcet [.t 2] = true := by kernel_rfl
theorem call_spec_Wcet {args : List AV} {σ : List AB} {K : AV → List AB → Prop} (hn : args.length ≤ 13) (hw : wpC Try.prog σ.length 13 c_spec_Wcet (retP σ.length [.t 2] K) ⟨initT 0 args, σ⟩) : CallWp Try.prog n_spec_Wcet args σ K := call_fn mixed Try.func43 k_spec_Wcet hn hw
def l0_impl_Bcet : LC := .seq (.ops [⟨some 15, none, .bin .lss (.t 14) (.t 13)⟩])
    (.seq (.cond (.t 15) (.skip)
    (.exit 0))
    (.seq (.block 1 (.seq (.ops [⟨some 16, none, .mv (.t 14)⟩,
      ⟨some 17, none, .ia 5 (.t 12) (.t 14)⟩,
      ⟨some 18, none, .ldn 5 (.t 17)⟩,
      ⟨some 5, none, .alloc ty_impl_Node [.i .i64 0, .i .i64 0, .i .i64 0, .i .i64 0, .i .i64 0]⟩,
      ⟨some 4, none, .mv (.t 16)⟩,
      ⟨none, none, .st 5 (.t 5) (.t 18)⟩])
    (.seq (.ops [⟨some 19, none, .fa 0 (.t 5)⟩,
      ⟨some 20, none, .ld (.t 19)⟩])
    (.block 2 (.join (.seq (.ops [⟨some 22, none, .bin .eql (.t 20) (.k (.i .i64 1))⟩,
      ⟨some 21, none, .mv (.t 22)⟩])
    (.cond (.t 21) (.skip)
    (.ops [⟨some 23, none, .bin .eql (.t 20) (.k (.i .i64 4))⟩,
      ⟨some 21, none, .mv (.t 23)⟩])))
    (.cond (.t 21) (.ops [⟨some 24, none, .mv (.t 3)⟩,
      ⟨some 25, none, .mv (.t 4)⟩,
      ⟨some 26, none, .fa 1 (.t 5)⟩,
      ⟨some 27, none, .ld (.t 26)⟩,
      ⟨some 28, none, .ia 1 (.t 24) (.t 25)⟩,
      ⟨none, none, .st 1 (.t 28) (.t 27)⟩])
    (.seq (.ops [⟨some 30, none, .bin .eql (.t 20) (.k (.i .i64 2))⟩,
      ⟨some 29, none, .mv (.t 30)⟩])
    (.cond (.t 29) (.draw 13 [⟨some 31, none, .mv (.t 3)⟩,
      ⟨some 32, none, .mv (.t 4)⟩,
      ⟨some 33, none, .mv (.t 3)⟩,
      ⟨some 34, none, .fa 2 (.t 5)⟩,
      ⟨some 35, none, .ld (.t 34)⟩,
      ⟨some 36, none, .ia 1 (.t 33) (.t 35)⟩,
      ⟨some 37, none, .ld (.t 36)⟩,
      ⟨some 38, none, .mv (.t 3)⟩,
      ⟨some 39, none, .fa 3 (.t 5)⟩,
      ⟨some 40, none, .ld (.t 39)⟩,
      ⟨some 41, none, .ia 1 (.t 38) (.t 40)⟩,
      ⟨some 42, none, .ld (.t 41)⟩,
      ⟨some 43, none, .bin .add (.t 37) (.t 42)⟩,
      ⟨some 44, none, .ia 1 (.t 31) (.t 32)⟩,
      ⟨none, none, .st 1 (.t 44) (.t 43)⟩])
    (.seq (.ops [⟨some 46, none, .bin .eql (.t 20) (.k (.i .i64 3))⟩,
      ⟨some 45, none, .mv (.t 46)⟩])
    (.cond (.t 45) (.draw 16 [⟨some 47, none, .mv (.t 3)⟩,
      ⟨some 48, none, .mv (.t 4)⟩,
      ⟨some 49, none, .fa 1 (.t 5)⟩,
      ⟨some 50, none, .ld (.t 49)⟩,
      ⟨some 51, none, .mv (.t 3)⟩,
      ⟨some 52, none, .fa 2 (.t 5)⟩,
      ⟨some 53, none, .ld (.t 52)⟩,
      ⟨some 54, none, .ia 1 (.t 51) (.t 53)⟩,
      ⟨some 55, none, .ld (.t 54)⟩,
      ⟨some 56, none, .mv (.t 3)⟩,
      ⟨some 57, none, .fa 3 (.t 5)⟩,
      ⟨some 58, none, .ld (.t 57)⟩,
      ⟨some 59, none, .ia 1 (.t 56) (.t 58)⟩,
      ⟨some 60, none, .ld (.t 59)⟩,
      ⟨some 61, none, .mn (.t 55) (.t 60)⟩,
      ⟨some 62, none, .bin .add (.t 50) (.t 61)⟩,
      ⟨some 63, none, .ia 1 (.t 47) (.t 48)⟩,
      ⟨none, none, .st 1 (.t 63) (.t 62)⟩])
    (.skip)))))))))))
    (.ops [⟨some 64, none, .bin .add (.t 14) (.k (.i .i64 1))⟩,
      ⟨some 14, none, .mv (.t 64)⟩])))
def c_impl_Bcet : LC := .seq (.ops [⟨some 2, none, .mv (.k (.i .i64 0))⟩])
    (.seq (.seq (.ops [⟨some 6, none, .mv (.t 0)⟩,
      ⟨some 7, none, .call (.k (.fn n_impl_ProgramValid [] [])) [.t 6]⟩,
      ⟨some 8, none, .not (.t 7)⟩])
    (.cond (.t 8) (.seq (.ops [⟨some 2, none, .mv (.k (.i .i64 (-1)))⟩])
    (.ret))
    (.skip)))
    (.seq (.ops [⟨some 9, none, .mv (.t 0)⟩,
      ⟨some 10, none, .len (.t 9)⟩,
      ⟨some 11, none, .msl ty_int 8 [.i .i64 0] (.t 10)⟩,
      ⟨some 3, none, .mv (.t 11)⟩])
    (.seq (.seq (.ops [⟨some 12, none, .mv (.t 0)⟩,
      ⟨some 13, none, .len (.t 12)⟩,
      ⟨some 14, none, .mv (.k (.i .i64 0))⟩])
    (.block 0 (.loop l0_impl_Bcet)))
    (.seq (.ops [⟨some 65, none, .mv (.t 3)⟩,
      ⟨some 66, none, .mv (.t 0)⟩,
      ⟨some 67, none, .len (.t 66)⟩,
      ⟨some 68, none, .bin .sub (.t 67) (.k (.i .i64 1))⟩,
      ⟨some 69, none, .ia 1 (.t 65) (.t 68)⟩,
      ⟨some 70, none, .ld (.t 69)⟩,
      ⟨some 2, none, .mv (.t 70)⟩])
    (.ret)))))
theorem k_impl_Bcet : chkF Try.prog Try.f44 71 c_impl_Bcet [.t 2] = true := by kernel_rfl
theorem call_impl_Bcet {args : List AV} {σ : List AB} {K : AV → List AB → Prop} (hn : args.length ≤ 71) (hw : wpC Try.prog σ.length 71 c_impl_Bcet (retP σ.length [.t 2] K) ⟨initT 0 args, σ⟩) : CallWp Try.prog n_impl_Bcet args σ K := call_fn mixed Try.func44 k_impl_Bcet hn hw
def c_spec_Bcet : LC := .seq (.ops [⟨some 2, none, .mv (.k (.i .i64 0))⟩])
    (.seq (.seq (.ops [⟨some 3, none, .mv (.t 0)⟩,
      ⟨some 4, none, .call (.k (.fn n_spec_ProgramValid [] [])) [.t 3]⟩,
      ⟨some 5, none, .not (.t 4)⟩])
    (.cond (.t 5) (.seq (.ops [⟨some 2, none, .mv (.k (.i .i64 (-1)))⟩])
    (.ret))
    (.skip)))
    (.seq (.ops [⟨some 6, none, .mv (.t 0)⟩,
      ⟨some 7, none, .call (.k (.fn n_spec_l8Costs [] [])) [.t 6, .k (.b false)]⟩,
      ⟨some 8, none, .mv (.t 0)⟩,
      ⟨some 9, none, .len (.t 8)⟩,
      ⟨some 10, none, .bin .sub (.t 9) (.k (.i .i64 1))⟩,
      ⟨some 11, none, .ia 1 (.t 7) (.t 10)⟩,
      ⟨some 12, none, .ld (.t 11)⟩,
      ⟨some 2, none, .mv (.t 12)⟩])
    (.ret)))
theorem k_spec_Bcet : chkF Try.prog Try.f45 13 c_spec_Bcet [.t 2] = true := by kernel_rfl
theorem call_spec_Bcet {args : List AV} {σ : List AB} {K : AV → List AB → Prop} (hn : args.length ≤ 13) (hw : wpC Try.prog σ.length 13 c_spec_Bcet (retP σ.length [.t 2] K) ⟨initT 0 args, σ⟩) : CallWp Try.prog n_spec_Bcet args σ K := call_fn mixed Try.func45 k_spec_Bcet hn hw
def c_spec_l20Open : LC := .seq (.ops [⟨some 2, none, .mv (.k (.pn))⟩])
    (.join (.seq (.ops [⟨some 3, none, .mv (.t 0)⟩,
      ⟨some 4, none, .len (.t 3)⟩,
      ⟨some 5, none, .bin .gtr (.t 4) (.k (.i .i64 2000))⟩])
    (.cond (.t 5) (.ops [⟨some 6, none, .mv (.t 0)⟩,
      ⟨some 7, none, .slc 1 (.t 6) none (some (.k (.i .i64 2000))) none⟩,
      ⟨some 0, none, .mv (.t 7)⟩])
    (.skip)))
    (.seq (.ops [⟨some 8, none, .mv (.t 0)⟩,
      ⟨some 9, none, .build [.sn, .i .i64 0] [(0, 1, .t 8)]⟩,
      ⟨some 10, none, .box ty_spec_l20Rd (.t 9)⟩,
      ⟨some 2, none, .mv (.t 10)⟩])
    (.ret)))
theorem k_spec_l20Open : chkF Try.prog Try.f47 11 c_spec_l20Open [.t 2] = true := by kernel_rfl
theorem call_spec_l20Open {args : List AV} {σ : List AB} {K : AV → List AB → Prop} (hn : args.length ≤ 11) (hw : wpC Try.prog σ.length 11 c_spec_l20Open (retP σ.length [.t 2] K) ⟨initT 0 args, σ⟩) : CallWp Try.prog n_spec_l20Open args σ K := call_fn mixed Try.func47 k_spec_l20Open hn hw
def c_impl_TaskValid : LC := .seq (.ops [⟨some 1, none, .box ty_impl_Task (.t 0)⟩,
      ⟨some 2, none, .mv (.k (.b false))⟩])
    (.seq (.ops [⟨some 3, none, .fa 0 (.t 1)⟩,
      ⟨some 4, none, .ld (.t 3)⟩,
      ⟨some 5, none, .call (.k (.fn n_impl_in [] [])) [.t 4, .k (.i .i64 1), .k (.i .i64 8)]⟩,
      ⟨some 6, none, .mv (.t 5)⟩,
      ⟨some 7, (some (6, true)), .fa 1 (.t 1)⟩,
      ⟨some 8, (some (6, true)), .ld (.t 7)⟩,
      ⟨some 9, (some (6, true)), .fa 0 (.t 1)⟩,
      ⟨some 10, (some (6, true)), .ld (.t 9)⟩,
      ⟨some 11, (some (6, true)), .fa 2 (.t 1)⟩,
      ⟨some 12, (some (6, true)), .ld (.t 11)⟩,
      ⟨some 13, (some (6, true)), .call (.k (.fn n_impl_in [] [])) [.t 8, .t 10, .t 12]⟩,
      ⟨some 14, none, .pick (.t 6) (.t 13) (.k (.b false))⟩,
      ⟨some 15, none, .mv (.t 14)⟩,
      ⟨some 16, (some (15, true)), .fa 2 (.t 1)⟩,
      ⟨some 17, (some (15, true)), .ld (.t 16)⟩,
      ⟨some 18, (some (15, true)), .bin .leq (.t 17) (.k (.i .i64 12))⟩,
      ⟨some 19, none, .pick (.t 15) (.t 18) (.k (.b false))⟩,
      ⟨some 2, none, .mv (.t 19)⟩])
    (.ret))
theorem k_impl_TaskValid : chkF Try.prog Try.f54 20 c_impl_TaskValid [.t 2] = true := by kernel_rfl
theorem call_impl_TaskValid {args : List AV} {σ : List AB} {K : AV → List AB → Prop} (hn : args.length ≤ 20) (hw : wpC Try.prog σ.length 20 c_impl_TaskValid (retP σ.length [.t 2] K) ⟨initT 0 args, σ⟩) : CallWp Try.prog n_impl_TaskValid args σ K := call_fn mixed Try.func54 k_impl_TaskValid hn hw
def c_impl_in : LC := .seq (.ops [⟨some 6, none, .mv (.k (.b false))⟩])
    (.seq (.ops [⟨some 7, none, .mv (.t 0)⟩,
      ⟨some 8, none, .mv (.t 1)⟩,
      ⟨some 9, none, .bin .geq (.t 7) (.t 8)⟩,
      ⟨some 10, none, .mv (.t 9)⟩,
      ⟨some 11, (some (10, true)), .mv (.t 0)⟩,
      ⟨some 12, (some (10, true)), .mv (.t 2)⟩,
      ⟨some 13, (some (10, true)), .bin .leq (.t 11) (.t 12)⟩,
      ⟨some 14, none, .pick (.t 10) (.t 13) (.k (.b false))⟩,
      ⟨some 6, none, .mv (.t 14)⟩])
    (.ret))
theorem k_impl_in : chkF Try.prog Try.f55 15 c_impl_in [.t 6] = true := by kernel_rfl
theorem call_impl_in {args : List AV} {σ : List AB} {K : AV → List AB → Prop} (hn : args.length ≤ 15) (hw : wpC Try.prog σ.length 15 c_impl_in (retP σ.length [.t 6] K) ⟨initT 0 args, σ⟩) : CallWp Try.prog n_impl_in args σ K := call_fn mixed Try.func55 k_impl_in hn hw
def c_spec_l1In : LC := .seq (.ops [⟨some 6, none, .mv (.k (.b false))⟩])
    (.seq (.ops [⟨some 7, none, .mv (.t 0)⟩,
      ⟨some 8, none, .mv (.t 1)⟩,
      ⟨some 9, none, .bin .geq (.t 7) (.t 8)⟩,
      ⟨some 10, none, .mv (.t 9)⟩,
      ⟨some 11, (some (10, true)), .mv (.t 0)⟩,
      ⟨some 12, (some (10, true)), .mv (.t 2)⟩,
      ⟨some 13, (some (10, true)), .bin .leq (.t 11) (.t 12)⟩,
      ⟨some 14, none, .pick (.t 10) (.t 13) (.k (.b false))⟩,
      ⟨some 6, none, .mv (.t 14)⟩])
    (.ret))
theorem k_spec_l1In : chkF Try.prog Try.f63 15 c_spec_l1In [.t 6] = true := by kernel_rfl
theorem call_spec_l1In {args : List AV} {σ : List AB} {K : AV → List AB → Prop} (hn : args.length ≤ 15) (hw : wpC Try.prog σ.length 15 c_spec_l1In (retP σ.length [.t 6] K) ⟨initT 0 args, σ⟩) : CallWp Try.prog n_spec_l1In args σ K := call_fn mixed Try.func63 k_spec_l1In hn hw
def l0_spec_l20Prog : LC := .seq (.seq (.ops [⟨some 86, none, .mv (.t 5)⟩,
      ⟨some 87, none, .len (.t 86)⟩,
      ⟨some 88, none, .bin .lss (.t 87) (.k (.i .i64 12))⟩])
    (.cond (.t 88) (.skip)
    (.exit 6)))
    (.block 7 (.ops [⟨some 89, none, .mv (.t 5)⟩,
      ⟨some 90, none, .mv (.t 5)⟩,
      ⟨some 91, none, .len (.t 90)⟩,
      ⟨some 92, none, .bin .sub (.t 91) (.k (.i .i64 1))⟩,
      ⟨some 93, none, .build [.i .i64 0, .i .i64 0, .i .i64 0, .i .i64 0, .i .i64 0] [(0, 1, .k (.i .i64 4)), (1, 1, .k (.i .i64 1)), (2, 1, .t 92), (4, 1, .k (.i .i64 4))]⟩,
      ⟨some 94, none, .bsl ty_impl_Node [.i .i64 0, .i .i64 0, .i .i64 0, .i .i64 0, .i .i64 0] 1 [(0, 5, .t 93)]⟩,
      ⟨some 95, none, .app ty_impl_Node 5 40 (.t 89) (.t 94)⟩,
      ⟨some 5, none, .mv (.t 95)⟩]))
def l1_spec_l20Prog : LC := .seq (.seq (.ops [⟨some 73, none, .mv (.t 5)⟩,
      ⟨some 74, none, .call (.k (.fn n_spec_ProgramValid [] [])) [.t 73]⟩,
      ⟨some 75, none, .not (.t 74)⟩])
    (.cond (.t 75) (.skip)
    (.exit 3)))
    (.block 4 (.ops [⟨some 76, none, .mv (.t 5)⟩,
      ⟨some 77, none, .mv (.t 5)⟩,
      ⟨some 78, none, .len (.t 77)⟩,
      ⟨some 79, none, .bin .sub (.t 78) (.k (.i .i64 1))⟩,
      ⟨some 80, none, .slc 5 (.t 76) none (some (.t 79)) none⟩,
      ⟨some 5, none, .mv (.t 80)⟩]))
def l2_spec_l20Prog : LC := .seq (.seq (.ops [⟨some 16, none, .mv (.t 6)⟩,
      ⟨some 17, none, .bin .gtr (.t 16) (.k (.i .i64 0))⟩])
    (.cond (.t 17) (.skip)
    (.exit 0)))
    (.seq (.block 1 (.seq (.ops [⟨some 20, none, .mv (.t 5)⟩,
      ⟨some 21, none, .len (.t 20)⟩,
      ⟨some 7, none, .mv (.t 21)⟩])
    (.seq (.ops [⟨some 22, none, .mv (.t 0)⟩,
      ⟨some 23, none, .call (.k (.fn n_spec_l20Rd_pick [] [])) [.t 22, .k (.i .i64 4)]⟩,
      ⟨some 24, none, .bin .add (.k (.i .i64 1)) (.t 23)⟩,
      ⟨some 25, none, .build [.i .i64 0, .i .i64 0, .i .i64 0, .i .i64 0, .i .i64 0] [(0, 1, .t 24)]⟩,
      ⟨some 8, none, .alloc ty_impl_Node [.i .i64 0, .i .i64 0, .i .i64 0, .i .i64 0, .i .i64 0]⟩,
      ⟨none, none, .st 5 (.t 8) (.t 25)⟩])
    (.seq (.seq (.ops [⟨some 26, none, .fa 0 (.t 8)⟩,
      ⟨some 27, none, .ld (.t 26)⟩])
    (.block 2 (.seq (.ops [⟨some 40, none, .bin .eql (.t 27) (.k (.i .i64 1))⟩,
      ⟨some 39, none, .mv (.t 40)⟩])
    (.cond (.t 39) (.ops [⟨some 41, none, .mv (.t 0)⟩,
      ⟨some 42, none, .call (.k (.fn n_spec_l20Rd_pick [] [])) [.t 41, .k (.i .i64 9)]⟩,
      ⟨some 43, none, .bin .add (.k (.i .i64 1)) (.t 42)⟩,
      ⟨some 44, none, .fa 1 (.t 8)⟩,
      ⟨none, none, .st 1 (.t 44) (.t 43)⟩])
    (.seq (.ops [⟨some 46, none, .bin .eql (.t 27) (.k (.i .i64 2))⟩,
      ⟨some 45, none, .mv (.t 46)⟩])
    (.cond (.t 45) (.seq (.ops [⟨some 47, none, .mv (.t 0)⟩,
      ⟨some 48, none, .mv (.t 7)⟩,
      ⟨some 49, none, .call (.k (.fn n_spec_l20Rd_pick [] [])) [.t 47, .t 48]⟩,
      ⟨some 50, none, .fa 2 (.t 8)⟩,
      ⟨none, none, .st 1 (.t 50) (.t 49)⟩])
    (.ops [⟨some 51, none, .mv (.t 0)⟩,
      ⟨some 52, none, .mv (.t 7)⟩,
      ⟨some 53, none, .call (.k (.fn n_spec_l20Rd_pick [] [])) [.t 51, .t 52]⟩,
      ⟨some 54, none, .fa 3 (.t 8)⟩,
      ⟨none, none, .st 1 (.t 54) (.t 53)⟩]))
    (.seq (.ops [⟨some 56, none, .bin .eql (.t 27) (.k (.i .i64 3))⟩,
      ⟨some 55, none, .mv (.t 56)⟩])
    (.cond (.t 55) (.seq (.ops [⟨some 57, none, .mv (.t 0)⟩,
      ⟨some 58, none, .call (.k (.fn n_spec_l20Rd_pick [] [])) [.t 57, .k (.i .i64 3)]⟩,
      ⟨some 59, none, .bin .add (.k (.i .i64 1)) (.t 58)⟩,
      ⟨some 60, none, .fa 1 (.t 8)⟩,
      ⟨none, none, .st 1 (.t 60) (.t 59)⟩])
    (.seq (.ops [⟨some 61, none, .mv (.t 0)⟩,
      ⟨some 62, none, .mv (.t 7)⟩,
      ⟨some 63, none, .call (.k (.fn n_spec_l20Rd_pick [] [])) [.t 61, .t 62]⟩,
      ⟨some 64, none, .fa 2 (.t 8)⟩,
      ⟨none, none, .st 1 (.t 64) (.t 63)⟩])
    (.ops [⟨some 65, none, .mv (.t 0)⟩,
      ⟨some 66, none, .mv (.t 7)⟩,
      ⟨some 67, none, .call (.k (.fn n_spec_l20Rd_pick [] [])) [.t 65, .t 66]⟩,
      ⟨some 68, none, .fa 3 (.t 8)⟩,
      ⟨none, none, .st 1 (.t 68) (.t 67)⟩])))
    (.seq (.ops [⟨some 28, none, .mv (.t 0)⟩,
      ⟨some 29, none, .call (.k (.fn n_spec_l20Rd_pick [] [])) [.t 28, .k (.i .i64 2)]⟩,
      ⟨some 30, none, .bin .add (.k (.i .i64 1)) (.t 29)⟩,
      ⟨some 31, none, .fa 1 (.t 8)⟩,
      ⟨none, none, .st 1 (.t 31) (.t 30)⟩])
    (.seq (.ops [⟨some 32, none, .mv (.t 0)⟩,
      ⟨some 33, none, .mv (.t 7)⟩,
      ⟨some 34, none, .call (.k (.fn n_spec_l20Rd_pick [] [])) [.t 32, .t 33]⟩,
      ⟨some 35, none, .fa 2 (.t 8)⟩,
      ⟨none, none, .st 1 (.t 35) (.t 34)⟩])
    (.ops [⟨some 36, none, .mv (.t 0)⟩,
      ⟨some 37, none, .call (.k (.fn n_spec_l20Rd_pick [] [])) [.t 36, .k (.i .i64 4)]⟩,
      ⟨some 38, none, .fa 4 (.t 8)⟩,
      ⟨none, none, .st 1 (.t 38) (.t 37)⟩])))))))))))
    (.ops [⟨some 69, none, .mv (.t 5)⟩,
      ⟨some 70, none, .ldn 5 (.t 8)⟩,
      ⟨some 71, none, .bsl ty_impl_Node [.i .i64 0, .i .i64 0, .i .i64 0, .i .i64 0, .i .i64 0] 1 [(0, 5, .t 70)]⟩,
      ⟨some 72, none, .app ty_impl_Node 5 40 (.t 69) (.t 71)⟩,
      ⟨some 5, none, .mv (.t 72)⟩])))))
    (.ops [⟨some 18, none, .mv (.t 6)⟩,
      ⟨some 19, none, .bin .sub (.t 18) (.k (.i .i64 1))⟩,
      ⟨some 6, none, .mv (.t 19)⟩]))
def c_spec_l20Prog : LC := .seq (.ops [⟨some 4, none, .mv (.k (.sn))⟩])
    (.seq (.ops [⟨some 9, none, .mv (.t 0)⟩,
      ⟨some 10, none, .call (.k (.fn n_spec_l20Rd_pick [] [])) [.t 9, .k (.i .i64 9)]⟩,
      ⟨some 11, none, .bin .add (.k (.i .i64 1)) (.t 10)⟩,
      ⟨some 12, none, .build [.i .i64 0, .i .i64 0, .i .i64 0, .i .i64 0, .i .i64 0] [(0, 1, .k (.i .i64 1)), (1, 1, .t 11)]⟩,
      ⟨some 13, none, .bsl ty_impl_Node [.i .i64 0, .i .i64 0, .i .i64 0, .i .i64 0, .i .i64 0] 1 [(0, 5, .t 12)]⟩,
      ⟨some 5, none, .mv (.t 13)⟩])
    (.seq (.seq (.ops [⟨some 14, none, .mv (.t 0)⟩,
      ⟨some 15, none, .call (.k (.fn n_spec_l20Rd_pick [] [])) [.t 14, .k (.i .i64 12)]⟩,
      ⟨some 6, none, .mv (.t 15)⟩])
    (.block 0 (.loop l2_spec_l20Prog)))
    (.seq (.block 3 (.loop l1_spec_l20Prog))
    (.join (.seq (.ops [⟨some 81, none, .mv (.t 0)⟩,
      ⟨some 82, none, .mv (.t 1)⟩,
      ⟨some 83, none, .call (.k (.fn n_spec_l20Rd_odd [] [])) [.t 81, .t 82]⟩])
    (.cond (.t 83) (.seq (.ops [⟨some 84, none, .mv (.t 0)⟩,
      ⟨some 85, none, .call (.k (.fn n_spec_l20Rd_pick [] [])) [.t 84, .k (.i .i64 5)]⟩])
    (.block 5 (.seq (.ops [⟨some 97, none, .bin .eql (.t 85) (.k (.i .i64 0))⟩,
      ⟨some 96, none, .mv (.t 97)⟩])
    (.cond (.t 96) (.seq (.ops [⟨some 98, none, .bsl ty_impl_Node [.i .i64 0, .i .i64 0, .i .i64 0, .i .i64 0, .i .i64 0] 0 []⟩,
      ⟨some 4, none, .mv (.t 98)⟩])
    (.ret))
    (.seq (.ops [⟨some 100, none, .bin .eql (.t 85) (.k (.i .i64 1))⟩,
      ⟨some 99, none, .mv (.t 100)⟩])
    (.cond (.t 99) (.ops [⟨some 101, none, .mv (.t 5)⟩,
      ⟨some 102, none, .mv (.t 5)⟩,
      ⟨some 103, none, .len (.t 102)⟩,
      ⟨some 104, none, .build [.i .i64 0, .i .i64 0, .i .i64 0, .i .i64 0, .i .i64 0] [(0, 1, .k (.i .i64 2)), (2, 1, .t 103), (3, 1, .k (.i .i64 0))]⟩,
      ⟨some 105, none, .bsl ty_impl_Node [.i .i64 0, .i .i64 0, .i .i64 0, .i .i64 0, .i .i64 0] 1 [(0, 5, .t 104)]⟩,
      ⟨some 106, none, .app ty_impl_Node 5 40 (.t 101) (.t 105)⟩,
      ⟨some 5, none, .mv (.t 106)⟩])
    (.seq (.ops [⟨some 108, none, .bin .eql (.t 85) (.k (.i .i64 2))⟩,
      ⟨some 107, none, .mv (.t 108)⟩])
    (.cond (.t 107) (.ops [⟨some 109, none, .mv (.t 5)⟩,
      ⟨some 110, none, .mv (.t 0)⟩,
      ⟨some 111, none, .mv (.t 5)⟩,
      ⟨some 112, none, .len (.t 111)⟩,
      ⟨some 113, none, .call (.k (.fn n_spec_l20Rd_pick [] [])) [.t 110, .t 112]⟩,
      ⟨some 114, none, .bsl ty_int [.i .i64 0] 2 [(0, 1, .k (.i .i64 0)), (1, 1, .k (.i .i64 5))]⟩,
      ⟨some 115, none, .mv (.t 0)⟩,
      ⟨some 116, none, .call (.k (.fn n_spec_l20Rd_pick [] [])) [.t 115, .k (.i .i64 2)]⟩,
      ⟨some 117, none, .ia 1 (.t 114) (.t 116)⟩,
      ⟨some 118, none, .ld (.t 117)⟩,
      ⟨some 119, none, .ia 5 (.t 109) (.t 113)⟩,
      ⟨some 120, none, .fa 0 (.t 119)⟩,
      ⟨none, none, .st 1 (.t 120) (.t 118)⟩])
    (.seq (.ops [⟨some 122, none, .bin .eql (.t 85) (.k (.i .i64 3))⟩,
      ⟨some 121, none, .mv (.t 122)⟩])
    (.cond (.t 121) (.ops [⟨some 123, none, .mv (.t 5)⟩,
      ⟨some 124, none, .mv (.t 0)⟩,
      ⟨some 125, none, .mv (.t 5)⟩,
      ⟨some 126, none, .len (.t 125)⟩,
      ⟨some 127, none, .call (.k (.fn n_spec_l20Rd_pick [] [])) [.t 124, .t 126]⟩,
      ⟨some 128, none, .bsl ty_int [.i .i64 0] 3 [(0, 1, .k (.i .i64 (-1))), (1, 1, .k (.i .i64 10)), (2, 1, .k (.i .i64 0))]⟩,
      ⟨some 129, none, .mv (.t 0)⟩,
      ⟨some 130, none, .call (.k (.fn n_spec_l20Rd_pick [] [])) [.t 129, .k (.i .i64 3)]⟩,
      ⟨some 131, none, .ia 1 (.t 128) (.t 130)⟩,
      ⟨some 132, none, .ld (.t 131)⟩,
      ⟨some 133, none, .ia 5 (.t 123) (.t 127)⟩,
      ⟨some 134, none, .fa 1 (.t 133)⟩,
      ⟨none, none, .st 1 (.t 134) (.t 132)⟩])
    (.block 6 (.loop l0_spec_l20Prog))))))))))))
    (.skip)))
    (.seq (.ops [⟨some 135, none, .mv (.t 5)⟩,
      ⟨some 4, none, .mv (.t 135)⟩])
    (.ret))))))
theorem k_spec_l20Prog : chkF Try.prog Try.f74 136 c_spec_l20Prog [.t 4] = true := by kernel_rfl
theorem call_spec_l20Prog {args : List AV} {σ : List AB} {K : AV → List AB → Prop} (hn : args.length ≤ 136) (hw : wpC Try.prog σ.length 136 c_spec_l20Prog (retP σ.length [.t 4] K) ⟨initT 0 args, σ⟩) : CallWp Try.prog n_spec_l20Prog args σ K := call_fn mixed Try.func74 k_spec_l20Prog hn hw
def l0_impl_ProgramValid : LC := .seq (.ops [⟨some 12, none, .bin .lss (.t 11) (.t 10)⟩])
    (.seq (.cond (.t 12) (.skip)
    (.exit 0))
    (.seq (.block 1 (.seq (.ops [⟨some 13, none, .mv (.t 11)⟩,
      ⟨some 14, none, .ia 5 (.t 9) (.t 11)⟩,
      ⟨some 15, none, .ldn 5 (.t 14)⟩,
      ⟨some 4, none, .alloc ty_impl_Node [.i .i64 0, .i .i64 0, .i .i64 0, .i .i64 0, .i .i64 0]⟩,
      ⟨some 3, none, .mv (.t 13)⟩,
      ⟨none, none, .st 5 (.t 4) (.t 15)⟩])
    (.seq (.ops [⟨some 16, none, .ldn 5 (.t 4)⟩,
      ⟨some 17, none, .mv (.t 3)⟩,
      ⟨some 18, none, .call (.k (.fn n_impl_nodeValid [] [])) [.t 16, .t 17]⟩,
      ⟨some 19, none, .not (.t 18)⟩])
    (.cond (.t 19) (.seq (.ops [⟨some 2, none, .mv (.k (.b false))⟩])
    (.ret))
    (.skip)))))
    (.ops [⟨some 20, none, .bin .add (.t 11) (.k (.i .i64 1))⟩,
      ⟨some 11, none, .mv (.t 20)⟩])))
def c_impl_ProgramValid : LC := .seq (.ops [⟨some 2, none, .mv (.k (.b false))⟩])
    (.seq (.seq (.ops [⟨some 5, none, .mv (.t 0)⟩,
      ⟨some 6, none, .len (.t 5)⟩,
      ⟨some 7, none, .call (.k (.fn n_impl_in [] [])) [.t 6, .k (.i .i64 1), .k (.i .i64 12)]⟩,
      ⟨some 8, none, .not (.t 7)⟩])
    (.cond (.t 8) (.seq (.ops [⟨some 2, none, .mv (.k (.b false))⟩])
    (.ret))
    (.skip)))
    (.seq (.seq (.ops [⟨some 9, none, .mv (.t 0)⟩,
      ⟨some 10, none, .len (.t 9)⟩,
      ⟨some 11, none, .mv (.k (.i .i64 0))⟩])
    (.block 0 (.loop l0_impl_ProgramValid)))
    (.seq (.ops [⟨some 21, none, .mv (.t 0)⟩,
      ⟨some 22, none, .call (.k (.fn n_impl_worst [] [])) [.t 21]⟩,
      ⟨some 23, none, .mv (.t 0)⟩,
      ⟨some 24, none, .len (.t 23)⟩,
      ⟨some 25, none, .bin .sub (.t 24) (.k (.i .i64 1))⟩,
      ⟨some 26, none, .ia 1 (.t 22) (.t 25)⟩,
      ⟨some 27, none, .ld (.t 26)⟩,
      ⟨some 28, none, .bin .leq (.t 27) (.k (.i .i64 600))⟩,
      ⟨some 2, none, .mv (.t 28)⟩])
    (.ret))))
theorem k_impl_ProgramValid : chkF Try.prog Try.f75 29 c_impl_ProgramValid [.t 2] = true := by kernel_rfl
theorem call_impl_ProgramValid {args : List AV} {σ : List AB} {K : AV → List AB → Prop} (hn : args.length ≤ 29) (hw : wpC Try.prog σ.length 29 c_impl_ProgramValid (retP σ.length [.t 2] K) ⟨initT 0 args, σ⟩) : CallWp Try.prog n_impl_ProgramValid args σ K := call_fn mixed Try.func75 k_impl_ProgramValid hn hw
end Go.Proofs.Ytfngcejaphhmmaa
