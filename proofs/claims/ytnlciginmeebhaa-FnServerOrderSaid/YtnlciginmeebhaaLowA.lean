import Derived.Test.YtnlciginmeebhaaProg
import Derived.Test.YtnlciginmeebhaaAbsY
import Derived.KernelRfl
namespace Go.Proofs.Ytnlciginmeebhaa
open Go.Abs
set_option maxRecDepth 100000
theorem mixed : Try.prog.follows .mixedOrders = true := by kernel_rfl
abbrev n_laws_FnServerOrder : Nat := 6
abbrev n_laws_sameSchedule : Nat := 16
abbrev n_laws_alive : Nat := 18
abbrev n_spec_DrawRunServers : Nat := 22
abbrev n_impl_RunServers : Nat := 23
abbrev n_spec_ServersValid : Nat := 24
abbrev n_spec_ArrivalsLegal : Nat := 25
abbrev n_laws_sameRun : Nat := 26
abbrev n_spec_RunServers : Nat := 27
abbrev n_laws_ticks : Nat := 28
abbrev n_spec_JobsLegal : Nat := 33
abbrev n_spec_l20Open : Nat := 34
abbrev n_spec_l20Set : Nat := 35
abbrev n_spec_SetValid : Nat := 37
abbrev n_spec_l20Jobs : Nat := 38
abbrev n_impl_JobsLegal : Nat := 40
abbrev n_impl_simulate : Nat := 42
abbrev n_impl_edf : Nat := 44
abbrev n_impl_machine_ready : Nat := 45
abbrev n_impl_machine_best : Nat := 46
abbrev n_impl_machine_deadline : Nat := 47
abbrev n_laws_sameInts : Nat := 49
abbrev n_impl_TaskValid : Nat := 53
abbrev n_impl_SetValid : Nat := 56
abbrev n_spec_l20Servers : Nat := 60
abbrev n_spec_l20Arrivals : Nat := 61
abbrev n_spec_l20Rd_odd : Nat := 62
abbrev n_impl_ServersValid : Nat := 63
abbrev n_slices_ContainsFunc_impl_Arrival_impl_Arrival : Nat := 64
abbrev n_impl_RunServers_1 : Nat := 65
abbrev n_impl_ArrivalsLegal : Nat := 66
abbrev n_impl_none : Nat := 67
abbrev n_impl_RunServers_2 : Nat := 68
abbrev n_impl_server_admit : Nat := 69
abbrev n_impl_server_pending : Nat := 70
abbrev n_impl_server_serve : Nat := 71
abbrev n_spec_l1In : Nat := 72
abbrev n_spec_l5Run : Nat := 73
abbrev n_spec_l20Rd_pick : Nat := 78
abbrev n_spec_l20Task : Nat := 79
abbrev n_spec_TaskValid : Nat := 80
abbrev n_impl_in : Nat := 81
abbrev n_impl_ordered : Nat := 82
abbrev n_impl_JobsLegal_1 : Nat := 83
abbrev n_impl_spaced : Nat := 84
abbrev n_impl_release : Nat := 85
abbrev n_impl_JobsLegal_2 : Nat := 86
abbrev n_slices_ContainsFunc_impl_Job : Nat := 87
abbrev n_impl_JobsLegal_3 : Nat := 88
abbrev n_impl_newMachine : Nat := 89
abbrev n_impl_machine_any : Nat := 90
abbrev n_slices_ContainsFunc_impl_Task : Nat := 96
abbrev n_impl_SetValid_1 : Nat := 97
abbrev n_slices_ContainsFunc_impl_Server : Nat := 99
abbrev n_impl_ServersValid_1 : Nat := 100
abbrev n_slices_IndexFunc_impl_Arrival_impl_Arrival : Nat := 101
abbrev n_slices_Repeat_int : Nat := 102
abbrev n_spec_l3Deadlines : Nat := 103
abbrev n_spec_l5Arrive : Nat := 104
abbrev n_spec_l3Best : Nat := 105
abbrev n_spec_l5Pick : Nat := 106
abbrev n_spec_l5Serve : Nat := 107
abbrev n_slices_IndexFunc_impl_Job : Nat := 110
abbrev n_slices_IndexFunc_impl_Task : Nat := 111
abbrev n_slices_IndexFunc_impl_Server : Nat := 114
abbrev n_math_bits_Mul : Nat := 115
abbrev n_math_bits_Mul32 : Nat := 118
abbrev n_math_bits_Mul64 : Nat := 119
abbrev ty_int : Nat := 3
abbrev ty_sl_impl_Task : Nat := 23
abbrev ty_sl_impl_Job : Nat := 25
abbrev ty_sl_int : Nat := 28
abbrev ty_impl_Schedule : Nat := 30
abbrev ty_impl_ServerRun : Nat := 44
abbrev ty_sl_impl_Arrival : Nat := 48
abbrev ty_impl_Arrival : Nat := 50
abbrev ty_impl_Job : Nat := 56
abbrev ty_impl_machine : Nat := 73
abbrev ty_impl_Task : Nat := 76
abbrev ty_sl_ptr_impl_server : Nat := 91
abbrev ty_impl_Server : Nat := 93
abbrev ty_ptr_impl_server : Nat := 94
abbrev ty_impl_server : Nat := 96
abbrev ty_spec_l20Rd : Nat := 105
abbrev ty_spec_l5State : Nat := 123
def l0_laws_FnServerOrder : LC := .seq (.seq (.ops [⟨some 54, none, .mv (.t 11)⟩,
      ⟨some 55, none, .mv (.t 6)⟩,
      ⟨some 56, none, .mv (.t 8)⟩,
      ⟨some 57, none, .ia 1 (.t 55) (.t 56)⟩,
      ⟨some 58, none, .ld (.t 57)⟩,
      ⟨some 59, none, .len (.t 58)⟩,
      ⟨some 60, none, .bin .lss (.t 54) (.t 59)⟩])
    (.cond (.t 60) (.skip)
    (.exit 2)))
    (.seq (.block 3 (.seq (.ops [⟨some 63, none, .fa 3 (.t 7)⟩,
      ⟨some 64, none, .ld (.t 63)⟩,
      ⟨some 65, none, .mv (.t 8)⟩,
      ⟨some 66, none, .ia 1 (.t 64) (.t 65)⟩,
      ⟨some 67, none, .ld (.t 66)⟩,
      ⟨some 68, none, .mv (.t 11)⟩,
      ⟨some 69, none, .ia 1 (.t 67) (.t 68)⟩,
      ⟨some 70, none, .ld (.t 69)⟩,
      ⟨some 12, none, .mv (.t 70)⟩])
    (.seq (.ops [⟨some 71, none, .mv (.t 10)⟩,
      ⟨some 72, none, .mv (.t 6)⟩,
      ⟨some 73, none, .mv (.t 8)⟩,
      ⟨some 74, none, .ia 1 (.t 72) (.t 73)⟩,
      ⟨some 75, none, .ld (.t 74)⟩,
      ⟨some 76, none, .mv (.t 11)⟩,
      ⟨some 77, none, .ia 2 (.t 75) (.t 76)⟩,
      ⟨some 78, none, .fa 1 (.t 77)⟩,
      ⟨some 79, none, .ld (.t 78)⟩,
      ⟨some 80, none, .bin .add (.t 71) (.t 79)⟩,
      ⟨some 10, none, .mv (.t 80)⟩])
    (.join (.seq (.ops [⟨some 81, none, .mv (.t 12)⟩,
      ⟨some 82, none, .bin .geq (.t 81) (.k (.i .i64 0))⟩])
    (.cond (.t 82) (.ops [⟨some 83, none, .mv (.t 10)⟩,
      ⟨some 9, none, .mv (.t 83)⟩])
    (.skip)))
    (.seq (.draw 52 [⟨some 84, none, .mv (.t 12)⟩,
      ⟨some 85, none, .bin .geq (.t 84) (.k (.i .i64 0))⟩,
      ⟨some 86, none, .mv (.t 85)⟩,
      ⟨some 87, (some (86, true)), .mv (.t 12)⟩,
      ⟨some 88, (some (86, true)), .mv (.t 6)⟩,
      ⟨some 89, (some (86, true)), .mv (.t 8)⟩,
      ⟨some 90, (some (86, true)), .ia 1 (.t 88) (.t 89)⟩,
      ⟨some 91, (some (86, true)), .ld (.t 90)⟩,
      ⟨some 92, (some (86, true)), .mv (.t 11)⟩,
      ⟨some 93, (some (86, true)), .ia 2 (.t 91) (.t 92)⟩,
      ⟨some 94, (some (86, true)), .fa 0 (.t 93)⟩,
      ⟨some 95, (some (86, true)), .ld (.t 94)⟩,
      ⟨some 96, (some (86, true)), .mv (.t 6)⟩,
      ⟨some 97, (some (86, true)), .mv (.t 8)⟩,
      ⟨some 98, (some (86, true)), .ia 1 (.t 96) (.t 97)⟩,
      ⟨some 99, (some (86, true)), .ld (.t 98)⟩,
      ⟨some 100, (some (86, true)), .mv (.t 11)⟩,
      ⟨some 101, (some (86, true)), .ia 2 (.t 99) (.t 100)⟩,
      ⟨some 102, (some (86, true)), .fa 1 (.t 101)⟩,
      ⟨some 103, (some (86, true)), .ld (.t 102)⟩,
      ⟨some 104, (some (86, true)), .bin .add (.t 95) (.t 103)⟩,
      ⟨some 105, (some (86, true)), .bin .lss (.t 87) (.t 104)⟩,
      ⟨some 106, (some (86, true)), .mv (.t 105)⟩,
      ⟨some 107, (some (106, false)), .mv (.t 11)⟩,
      ⟨some 108, (some (106, false)), .bin .gtr (.t 107) (.k (.i .i64 0))⟩,
      ⟨some 109, (some (106, false)), .mv (.t 108)⟩,
      ⟨some 110, (some (109, true)), .fa 3 (.t 7)⟩,
      ⟨some 111, (some (109, true)), .ld (.t 110)⟩,
      ⟨some 112, (some (109, true)), .mv (.t 8)⟩,
      ⟨some 113, (some (109, true)), .ia 1 (.t 111) (.t 112)⟩,
      ⟨some 114, (some (109, true)), .ld (.t 113)⟩,
      ⟨some 115, (some (109, true)), .mv (.t 11)⟩,
      ⟨some 116, (some (109, true)), .bin .sub (.t 115) (.k (.i .i64 1))⟩,
      ⟨some 117, (some (109, true)), .ia 1 (.t 114) (.t 116)⟩,
      ⟨some 118, (some (109, true)), .ld (.t 117)⟩,
      ⟨some 119, (some (109, true)), .bin .lss (.t 118) (.k (.i .i64 0))⟩,
      ⟨some 120, (some (109, true)), .mv (.t 119)⟩,
      ⟨some 121, (some (120, false)), .fa 3 (.t 7)⟩,
      ⟨some 122, (some (120, false)), .ld (.t 121)⟩,
      ⟨some 123, (some (120, false)), .mv (.t 8)⟩,
      ⟨some 124, (some (120, false)), .ia 1 (.t 122) (.t 123)⟩,
      ⟨some 125, (some (120, false)), .ld (.t 124)⟩,
      ⟨some 126, (some (120, false)), .mv (.t 11)⟩,
      ⟨some 127, (some (120, false)), .bin .sub (.t 126) (.k (.i .i64 1))⟩,
      ⟨some 128, (some (120, false)), .ia 1 (.t 125) (.t 127)⟩,
      ⟨some 129, (some (120, false)), .ld (.t 128)⟩,
      ⟨some 130, (some (120, false)), .mv (.t 12)⟩,
      ⟨some 131, (some (120, false)), .bin .geq (.t 129) (.t 130)⟩,
      ⟨some 132, (some (109, true)), .pick (.t 120) (.k (.b true)) (.t 131)⟩,
      ⟨some 133, (some (106, false)), .pick (.t 109) (.t 132) (.k (.b false))⟩,
      ⟨some 134, (some (86, true)), .pick (.t 106) (.k (.b true)) (.t 133)⟩,
      ⟨some 135, none, .pick (.t 86) (.t 134) (.k (.b false))⟩])
    (.cond (.t 135) (.seq (.ops [⟨some 2, none, .mv (.k (.b false))⟩])
    (.ret))
    (.skip)))))))
    (.ops [⟨some 61, none, .mv (.t 11)⟩,
      ⟨some 62, none, .bin .add (.t 61) (.k (.i .i64 1))⟩,
      ⟨some 11, none, .mv (.t 62)⟩]))
def l1_laws_FnServerOrder : LC := .seq (.seq (.ops [⟨some 48, none, .mv (.t 8)⟩,
      ⟨some 49, none, .mv (.t 5)⟩,
      ⟨some 50, none, .len (.t 49)⟩,
      ⟨some 51, none, .bin .lss (.t 48) (.t 50)⟩])
    (.cond (.t 51) (.skip)
    (.exit 0)))
    (.seq (.block 1 (.seq (.ops [⟨some 9, none, .mv (.k (.i .i64 0))⟩])
    (.seq (.ops [⟨some 10, none, .mv (.k (.i .i64 0))⟩])
    (.seq (.seq (.ops [⟨some 11, none, .mv (.k (.i .i64 0))⟩])
    (.block 2 (.loop l0_laws_FnServerOrder)))
    (.seq (.ops [⟨some 136, none, .fa 2 (.t 7)⟩,
      ⟨some 137, none, .ld (.t 136)⟩,
      ⟨some 138, none, .mv (.t 8)⟩,
      ⟨some 139, none, .call (.k (.fn n_laws_ticks [] [])) [.t 137, .t 138]⟩,
      ⟨some 13, none, .mv (.t 139)⟩])
    (.seq (.ops [⟨some 140, none, .mv (.t 13)⟩,
      ⟨some 141, none, .mv (.t 9)⟩,
      ⟨some 142, none, .bin .lss (.t 140) (.t 141)⟩,
      ⟨some 143, none, .mv (.t 142)⟩,
      ⟨some 144, (some (143, false)), .mv (.t 13)⟩,
      ⟨some 145, (some (143, false)), .mv (.t 10)⟩,
      ⟨some 146, (some (143, false)), .bin .gtr (.t 144) (.t 145)⟩,
      ⟨some 147, none, .pick (.t 143) (.k (.b true)) (.t 146)⟩])
    (.cond (.t 147) (.seq (.ops [⟨some 2, none, .mv (.k (.b false))⟩])
    (.ret))
    (.skip))))))))
    (.ops [⟨some 52, none, .mv (.t 8)⟩,
      ⟨some 53, none, .bin .add (.t 52) (.k (.i .i64 1))⟩,
      ⟨some 8, none, .mv (.t 53)⟩]))
def c_laws_FnServerOrder : LC := .seq (.ops [⟨some 2, none, .mv (.k (.b false))⟩])
    (.seq (.seq (.ops [⟨some 14, none, .mv (.t 0)⟩,
      ⟨some 15, none, .len (.t 14)⟩,
      ⟨some 16, none, .bin .gtr (.t 15) (.k (.i .i64 1048576))⟩])
    (.cond (.t 16) (.seq (.ops [⟨some 2, none, .mv (.k (.b true))⟩])
    (.ret))
    (.skip)))
    (.seq (.ops [⟨some 18, none, .mv (.t 0)⟩,
      ⟨some 19, none, .call (.k (.fn n_spec_DrawRunServers [] [])) [.t 18]⟩,
      ⟨some 17, none, .mv (.t 19)⟩,
      ⟨some 20, none, .ext 0 (.t 17)⟩,
      ⟨some 21, none, .ext 1 (.t 17)⟩,
      ⟨some 22, none, .ext 2 (.t 17)⟩,
      ⟨some 23, none, .ext 3 (.t 17)⟩,
      ⟨some 3, none, .mv (.t 20)⟩,
      ⟨some 4, none, .mv (.t 21)⟩,
      ⟨some 5, none, .mv (.t 22)⟩,
      ⟨some 6, none, .mv (.t 23)⟩])
    (.seq (.ops [⟨some 24, none, .mv (.t 3)⟩,
      ⟨some 25, none, .mv (.t 4)⟩,
      ⟨some 26, none, .mv (.t 5)⟩,
      ⟨some 27, none, .mv (.t 6)⟩,
      ⟨some 28, none, .call (.k (.fn n_impl_RunServers [] [])) [.t 24, .t 25, .t 26, .t 27]⟩,
      ⟨some 7, none, .alloc ty_impl_ServerRun [.sn, .sn, .sn, .sn]⟩,
      ⟨none, none, .st 4 (.t 7) (.t 28)⟩])
    (.seq (.seq (.plan [0, 1, 2, 3, 4] [⟨some 29, none, .ldn 4 (.t 7)⟩,
      ⟨some 30, none, .mv (.t 3)⟩,
      ⟨some 31, none, .mv (.t 4)⟩,
      ⟨some 32, none, .mv (.t 5)⟩,
      ⟨some 33, none, .mv (.t 6)⟩]
      (.one 5 ⟨some 34, none, .call (.k (.fn n_spec_RunServers [] [])) [.t 30, .t 31, .t 32, .t 33]⟩ [(29, some 4, 7)] []
        []
      (.one 6 ⟨some 35, none, .call (.k (.fn n_laws_sameRun [] [])) [.t 29, .t 34]⟩ [] [7]
        [⟨some 36, none, .not (.t 35)⟩]
      .fin)))
    (.cond (.t 36) (.seq (.ops [⟨some 2, none, .mv (.k (.b false))⟩])
    (.ret))
    (.skip)))
    (.seq (.seq (.ops [⟨some 37, none, .fa 2 (.t 7)⟩,
      ⟨some 38, none, .ld (.t 37)⟩,
      ⟨some 39, none, .len (.t 38)⟩,
      ⟨some 40, none, .bin .neq (.t 39) (.k (.i .i64 120))⟩])
    (.cond (.t 40) (.seq (.ops [⟨some 41, none, .fa 3 (.t 7)⟩,
      ⟨some 42, none, .ld (.t 41)⟩,
      ⟨some 43, none, .len (.t 42)⟩,
      ⟨some 44, none, .bin .eql (.t 43) (.k (.i .i64 0))⟩,
      ⟨some 45, none, .mv (.t 44)⟩,
      ⟨some 46, (some (45, true)), .call (.k (.fn n_laws_alive [] [])) []⟩,
      ⟨some 47, none, .pick (.t 45) (.t 46) (.k (.b false))⟩,
      ⟨some 2, none, .mv (.t 47)⟩])
    (.ret))
    (.skip)))
    (.seq (.seq (.ops [⟨some 8, none, .mv (.k (.i .i64 0))⟩])
    (.block 0 (.loop l1_laws_FnServerOrder)))
    (.seq (.ops [⟨some 2, none, .mv (.k (.b true))⟩])
    (.ret))))))))
theorem k_laws_FnServerOrder : chkF Try.prog Try.f6 148 c_laws_FnServerOrder [.t 2] = true := by kernel_rfl
theorem call_laws_FnServerOrder {args : List AV} {σ : List AB} {K : AV → List AB → Prop} (hn : args.length ≤ 148) (hw : wpC Try.prog σ.length 148 c_laws_FnServerOrder (retP σ.length [.t 2] K) ⟨initT 0 args, σ⟩) : CallWp Try.prog n_laws_FnServerOrder args σ K := call_fn mixed Try.func6 k_laws_FnServerOrder hn hw
def c_laws_sameSchedule : LC := .seq (.ops [⟨some 2, none, .box ty_impl_Schedule (.t 0)⟩,
      ⟨some 3, none, .box ty_impl_Schedule (.t 1)⟩,
      ⟨some 4, none, .mv (.k (.b false))⟩])
    (.seq (.ops [⟨some 5, none, .fa 0 (.t 2)⟩,
      ⟨some 6, none, .ld (.t 5)⟩,
      ⟨some 7, none, .fa 0 (.t 3)⟩,
      ⟨some 8, none, .ld (.t 7)⟩,
      ⟨some 9, none, .call (.k (.fn n_laws_sameInts [] [])) [.t 6, .t 8]⟩,
      ⟨some 10, none, .mv (.t 9)⟩,
      ⟨some 11, (some (10, true)), .fa 1 (.t 2)⟩,
      ⟨some 12, (some (10, true)), .ld (.t 11)⟩,
      ⟨some 13, (some (10, true)), .fa 1 (.t 3)⟩,
      ⟨some 14, (some (10, true)), .ld (.t 13)⟩,
      ⟨some 15, (some (10, true)), .call (.k (.fn n_laws_sameInts [] [])) [.t 12, .t 14]⟩,
      ⟨some 16, none, .pick (.t 10) (.t 15) (.k (.b false))⟩,
      ⟨some 4, none, .mv (.t 16)⟩])
    (.ret))
theorem k_laws_sameSchedule : chkF Try.prog Try.f16 17 c_laws_sameSchedule [.t 4] = true := by kernel_rfl
theorem callC_laws_sameSchedule {args : List AV} {σ : List AB} {K : AV → List AB → Prop} (hn : args.length ≤ 17) (hw : Closed σ → args.all (below1 σ.length) = true → wpC Try.prog σ.length 17 c_laws_sameSchedule (retP σ.length [.t 4] K) ⟨initT 0 args, σ⟩) : CallWp Try.prog n_laws_sameSchedule args σ K := call_fnC mixed Try.func16 k_laws_sameSchedule hn hw
def c_laws_alive : LC := .seq (.ops [⟨some 0, none, .mv (.k (.b false))⟩])
    (.seq (.ops [⟨some 1, none, .build [.i .i64 0, .i .i64 0, .i .i64 0] [(0, 1, .k (.i .i64 1)), (1, 1, .k (.i .i64 1)), (2, 1, .k (.i .i64 1))]⟩,
      ⟨some 2, none, .call (.k (.fn n_impl_TaskValid [] [])) [.t 1]⟩,
      ⟨some 0, none, .mv (.t 2)⟩])
    (.ret))
theorem k_laws_alive : chkF Try.prog Try.f18 3 c_laws_alive [.t 0] = true := by kernel_rfl
theorem call_laws_alive {args : List AV} {σ : List AB} {K : AV → List AB → Prop} (hn : args.length ≤ 3) (hw : wpC Try.prog σ.length 3 c_laws_alive (retP σ.length [.t 0] K) ⟨initT 0 args, σ⟩) : CallWp Try.prog n_laws_alive args σ K := call_fn mixed Try.func18 k_laws_alive hn hw
def l0_spec_DrawRunServers : LC := .seq (.seq (.ops [⟨some 18, none, .mv (.t 10)⟩,
      ⟨some 19, none, .mv (.t 8)⟩,
      ⟨some 20, none, .len (.t 19)⟩,
      ⟨some 21, none, .bin .lss (.t 18) (.t 20)⟩])
    (.cond (.t 21) (.skip)
    (.exit 0)))
    (.seq (.block 1 (.ops [⟨some 24, none, .mv (.t 9)⟩,
      ⟨some 25, none, .mv (.t 6)⟩,
      ⟨some 26, none, .call (.k (.fn n_spec_l20Arrivals [] [])) [.t 25, .k (.i .i64 20)]⟩,
      ⟨some 27, none, .bsl ty_sl_impl_Arrival [.sn] 1 [(0, 1, .t 26)]⟩,
      ⟨some 28, none, .app ty_sl_impl_Arrival 1 24 (.t 24) (.t 27)⟩,
      ⟨some 9, none, .mv (.t 28)⟩]))
    (.ops [⟨some 22, none, .mv (.t 10)⟩,
      ⟨some 23, none, .bin .add (.t 22) (.k (.i .i64 1))⟩,
      ⟨some 10, none, .mv (.t 23)⟩]))
def c_spec_DrawRunServers : LC := .seq (.ops [⟨some 2, none, .mv (.k (.sn))⟩,
      ⟨some 3, none, .mv (.k (.sn))⟩,
      ⟨some 4, none, .mv (.k (.sn))⟩,
      ⟨some 5, none, .mv (.k (.sn))⟩])
    (.seq (.ops [⟨some 11, none, .mv (.t 0)⟩,
      ⟨some 12, none, .call (.k (.fn n_spec_l20Open [] [])) [.t 11]⟩,
      ⟨some 6, none, .mv (.t 12)⟩])
    (.seq (.ops [⟨some 13, none, .mv (.t 6)⟩,
      ⟨some 14, none, .call (.k (.fn n_spec_l20Set [] [])) [.t 13, .k (.i .i64 24)]⟩,
      ⟨some 7, none, .mv (.t 14)⟩])
    (.seq (.ops [⟨some 15, none, .mv (.t 6)⟩,
      ⟨some 16, none, .call (.k (.fn n_spec_l20Servers [] [])) [.t 15, .k (.i .i64 16)]⟩,
      ⟨some 8, none, .mv (.t 16)⟩])
    (.seq (.ops [⟨some 17, none, .bsl ty_sl_impl_Arrival [.sn] 0 []⟩,
      ⟨some 9, none, .mv (.t 17)⟩])
    (.seq (.seq (.ops [⟨some 10, none, .mv (.k (.i .i64 0))⟩])
    (.block 0 (.loop l0_spec_DrawRunServers)))
    (.join (.seq (.ops [⟨some 29, none, .mv (.t 6)⟩,
      ⟨some 30, none, .call (.k (.fn n_spec_l20Rd_odd [] [])) [.t 29, .k (.i .i64 16)]⟩])
    (.cond (.t 30) (.ops [⟨some 31, none, .mv (.t 9)⟩,
      ⟨some 32, none, .bsl ty_impl_Arrival [.i .i64 0, .i .i64 0] 0 []⟩,
      ⟨some 33, none, .bsl ty_sl_impl_Arrival [.sn] 1 [(0, 1, .t 32)]⟩,
      ⟨some 34, none, .app ty_sl_impl_Arrival 1 24 (.t 31) (.t 33)⟩,
      ⟨some 9, none, .mv (.t 34)⟩])
    (.skip)))
    (.seq (.seq (.ops [⟨some 35, none, .mv (.t 7)⟩,
      ⟨some 36, none, .call (.k (.fn n_spec_SetValid [] [])) [.t 35]⟩,
      ⟨some 37, none, .not (.t 36)⟩])
    (.cond (.t 37) (.seq (.ops [⟨some 38, none, .mv (.t 7)⟩,
      ⟨some 39, none, .bsl ty_impl_Job [.i .i64 0, .i .i64 0, .i .i64 0, .i .i64 0] 0 []⟩,
      ⟨some 40, none, .mv (.t 8)⟩,
      ⟨some 41, none, .mv (.t 9)⟩,
      ⟨some 2, none, .mv (.t 38)⟩,
      ⟨some 3, none, .mv (.t 39)⟩,
      ⟨some 4, none, .mv (.t 40)⟩,
      ⟨some 5, none, .mv (.t 41)⟩])
    (.ret))
    (.skip)))
    (.seq (.ops [⟨some 42, none, .mv (.t 7)⟩,
      ⟨some 43, none, .mv (.t 6)⟩,
      ⟨some 44, none, .mv (.t 7)⟩,
      ⟨some 45, none, .call (.k (.fn n_spec_l20Jobs [] [])) [.t 43, .t 44, .k (.i .i64 20)]⟩,
      ⟨some 46, none, .mv (.t 8)⟩,
      ⟨some 47, none, .mv (.t 9)⟩,
      ⟨some 2, none, .mv (.t 42)⟩,
      ⟨some 3, none, .mv (.t 45)⟩,
      ⟨some 4, none, .mv (.t 46)⟩,
      ⟨some 5, none, .mv (.t 47)⟩])
    (.ret)))))))))
theorem k_spec_DrawRunServers : chkF Try.prog Try.f22 48 c_spec_DrawRunServers [.t 2, .t 3, .t 4, .t 5] = true := by kernel_rfl
theorem call_spec_DrawRunServers {args : List AV} {σ : List AB} {K : AV → List AB → Prop} (hn : args.length ≤ 48) (hw : wpC Try.prog σ.length 48 c_spec_DrawRunServers (retP σ.length [.t 2, .t 3, .t 4, .t 5] K) ⟨initT 0 args, σ⟩) : CallWp Try.prog n_spec_DrawRunServers args σ K := call_fn mixed Try.func22 k_spec_DrawRunServers hn hw
def l0_impl_RunServers : LC := .seq (.ops [⟨some 45, none, .bin .lss (.t 44) (.t 43)⟩])
    (.seq (.cond (.t 45) (.skip)
    (.exit 0))
    (.seq (.block 1 (.seq (.ops [⟨some 46, none, .mv (.t 44)⟩,
      ⟨some 47, none, .ia 2 (.t 42) (.t 44)⟩,
      ⟨some 48, none, .ldn 2 (.t 47)⟩,
      ⟨some 12, none, .alloc ty_impl_Server [.i .i64 0, .i .i64 0]⟩,
      ⟨some 11, none, .mv (.t 46)⟩,
      ⟨none, none, .st 2 (.t 12) (.t 48)⟩])
    (.seq (.plan [0, 1, 2, 3, 4, 5, 6, 7, 8, 9] [⟨some 49, none, .ld (.t 10)⟩,
      ⟨some 50, none, .mv (.t 11)⟩,
      ⟨some 51, none, .ldn 2 (.t 12)⟩,
      ⟨some 52, none, .fa 0 (.t 12)⟩,
      ⟨some 53, none, .ld (.t 52)⟩,
      ⟨some 54, none, .mv (.t 3)⟩,
      ⟨some 55, none, .mv (.t 11)⟩,
      ⟨some 56, none, .ia 1 (.t 54) (.t 55)⟩,
      ⟨some 57, none, .ld (.t 56)⟩,
      ⟨some 58, none, .build [.i .i64 0, .i .i64 0, .i .i64 0, .i .i64 0, .sn, .i .i64 0, .i .i64 0, .i .i64 0] [(0, 2, .t 51), (2, 1, .t 53), (4, 1, .t 57)]⟩]
      (.one 10 ⟨some 59, none, .box ty_impl_server (.t 58)⟩ [(49, none, 10), (51, some 2, 12), (53, none, 52), (57, none, 56)] [11]
        [⟨some 60, none, .ia 1 (.t 49) (.t 50)⟩]
      (.one 12 ⟨none, none, .st 1 (.t 60) (.t 59)⟩ [] []
        []
      .fin)))
    (.plan [0, 1, 2, 3, 4, 5, 6, 7] [⟨some 61, none, .fa 3 (.t 9)⟩,
      ⟨some 62, none, .ld (.t 61)⟩,
      ⟨some 63, none, .mv (.t 11)⟩,
      ⟨some 64, none, .mv (.t 3)⟩,
      ⟨some 65, none, .mv (.t 11)⟩,
      ⟨some 66, none, .ia 1 (.t 64) (.t 65)⟩,
      ⟨some 67, none, .ld (.t 66)⟩,
      ⟨some 68, none, .len (.t 67)⟩]
      (.one 8 ⟨some 69, none, .call (.k (.fn n_impl_none [] [])) [.t 68]⟩ [(62, none, 61), (67, none, 66)] [9]
        [⟨some 70, none, .ia 1 (.t 62) (.t 63)⟩]
      (.one 10 ⟨none, none, .st 1 (.t 70) (.t 69)⟩ [] []
        []
      .fin))))))
    (.ops [⟨some 71, none, .bin .add (.t 44) (.k (.i .i64 1))⟩,
      ⟨some 44, none, .mv (.t 71)⟩])))
def c_impl_RunServers : LC := .seq (.ops [⟨some 5, none, .box ty_sl_impl_Job (.t 1)⟩,
      ⟨some 8, none, .alloc ty_impl_ServerRun [.sn, .sn, .sn, .sn]⟩])
    (.seq (.seq (.ops [⟨some 13, none, .mv (.t 0)⟩,
      ⟨some 14, none, .ld (.t 5)⟩,
      ⟨some 15, none, .call (.k (.fn n_impl_JobsLegal [] [])) [.t 13, .t 14]⟩,
      ⟨some 16, none, .not (.t 15)⟩,
      ⟨some 17, none, .mv (.t 16)⟩,
      ⟨some 18, (some (17, false)), .mv (.t 2)⟩,
      ⟨some 19, (some (17, false)), .call (.k (.fn n_impl_ServersValid [] [])) [.t 18]⟩,
      ⟨some 20, (some (17, false)), .not (.t 19)⟩,
      ⟨some 21, none, .pick (.t 17) (.k (.b true)) (.t 20)⟩,
      ⟨some 22, none, .mv (.t 21)⟩,
      ⟨some 23, (some (22, false)), .mv (.t 3)⟩,
      ⟨some 24, (some (22, false)), .len (.t 23)⟩,
      ⟨some 25, (some (22, false)), .mv (.t 2)⟩,
      ⟨some 26, (some (22, false)), .len (.t 25)⟩,
      ⟨some 27, (some (22, false)), .bin .neq (.t 24) (.t 26)⟩,
      ⟨some 28, none, .pick (.t 22) (.k (.b true)) (.t 27)⟩,
      ⟨some 29, none, .mv (.t 28)⟩,
      ⟨some 30, (some (29, false)), .mv (.t 3)⟩,
      ⟨some 31, (some (29, false)), .call (.k (.fn n_slices_ContainsFunc_impl_Arrival_impl_Arrival [] [])) [.t 30, .k (.fn n_impl_RunServers_1 [] [])]⟩,
      ⟨some 32, none, .pick (.t 29) (.k (.b true)) (.t 31)⟩])
    (.cond (.t 32) (.seq (.ops [⟨some 33, none, .build [.sn, .sn, .sn, .sn] []⟩,
      ⟨none, none, .st 4 (.t 8) (.t 33)⟩])
    (.ret))
    (.skip)))
    (.join (.plan [1, 2] [⟨some 35, none, .mv (.t 2)⟩,
      ⟨some 36, none, .len (.t 35)⟩]
      (.alt (.one 0 ⟨some 34, none, .call (.k (.fn n_impl_none [] [])) [.k (.i .i64 120)]⟩ [] []
        []
      (.alt (.one 3 ⟨some 37, none, .msl ty_sl_int 24 [.sn] (.t 36)⟩ [] [4]
        [⟨some 38, none, .build [.sn, .sn, .sn, .sn] [(2, 1, .t 34), (3, 1, .t 37)]⟩]
      (.one 5 ⟨some 9, none, .alloc ty_impl_ServerRun [.sn, .sn, .sn, .sn]⟩ [] []
        []
      (.one 6 ⟨none, none, .st 4 (.t 9) (.t 38)⟩ [] []
        []
      .fin))) (.one 5 ⟨some 9, none, .alloc ty_impl_ServerRun [.sn, .sn, .sn, .sn]⟩ [] []
        []
      (.one 3 ⟨some 37, none, .msl ty_sl_int 24 [.sn] (.t 36)⟩ [] [4]
        [⟨some 38, none, .build [.sn, .sn, .sn, .sn] [(2, 1, .t 34), (3, 1, .t 37)]⟩]
      (.one 6 ⟨none, none, .st 4 (.t 9) (.t 38)⟩ [] []
        []
      .fin))))) (.alt (.one 3 ⟨some 37, none, .msl ty_sl_int 24 [.sn] (.t 36)⟩ [] []
        []
      (.alt (.one 0 ⟨some 34, none, .call (.k (.fn n_impl_none [] [])) [.k (.i .i64 120)]⟩ [] [4]
        [⟨some 38, none, .build [.sn, .sn, .sn, .sn] [(2, 1, .t 34), (3, 1, .t 37)]⟩]
      (.one 5 ⟨some 9, none, .alloc ty_impl_ServerRun [.sn, .sn, .sn, .sn]⟩ [] []
        []
      (.one 6 ⟨none, none, .st 4 (.t 9) (.t 38)⟩ [] []
        []
      .fin))) (.one 5 ⟨some 9, none, .alloc ty_impl_ServerRun [.sn, .sn, .sn, .sn]⟩ [] []
        []
      (.one 0 ⟨some 34, none, .call (.k (.fn n_impl_none [] [])) [.k (.i .i64 120)]⟩ [] [4]
        [⟨some 38, none, .build [.sn, .sn, .sn, .sn] [(2, 1, .t 34), (3, 1, .t 37)]⟩]
      (.one 6 ⟨none, none, .st 4 (.t 9) (.t 38)⟩ [] []
        []
      .fin))))) (.one 5 ⟨some 9, none, .alloc ty_impl_ServerRun [.sn, .sn, .sn, .sn]⟩ [] []
        []
      (.alt (.one 0 ⟨some 34, none, .call (.k (.fn n_impl_none [] [])) [.k (.i .i64 120)]⟩ [] []
        []
      (.one 3 ⟨some 37, none, .msl ty_sl_int 24 [.sn] (.t 36)⟩ [] [4]
        [⟨some 38, none, .build [.sn, .sn, .sn, .sn] [(2, 1, .t 34), (3, 1, .t 37)]⟩]
      (.one 6 ⟨none, none, .st 4 (.t 9) (.t 38)⟩ [] []
        []
      .fin))) (.one 3 ⟨some 37, none, .msl ty_sl_int 24 [.sn] (.t 36)⟩ [] []
        []
      (.one 0 ⟨some 34, none, .call (.k (.fn n_impl_none [] [])) [.k (.i .i64 120)]⟩ [] [4]
        [⟨some 38, none, .build [.sn, .sn, .sn, .sn] [(2, 1, .t 34), (3, 1, .t 37)]⟩]
      (.one 6 ⟨none, none, .st 4 (.t 9) (.t 38)⟩ [] []
        []
      .fin))))))))
    (.seq (.ops [⟨some 39, none, .mv (.t 2)⟩,
      ⟨some 40, none, .len (.t 39)⟩,
      ⟨some 41, none, .msl ty_ptr_impl_server 8 [.pn] (.t 40)⟩,
      ⟨some 10, none, .alloc ty_sl_ptr_impl_server [.sn]⟩,
      ⟨none, none, .st 1 (.t 10) (.t 41)⟩])
    (.seq (.seq (.ops [⟨some 42, none, .mv (.t 2)⟩,
      ⟨some 43, none, .len (.t 42)⟩,
      ⟨some 44, none, .mv (.k (.i .i64 0))⟩])
    (.block 0 (.loop l0_impl_RunServers)))
    (.seq (.ops [⟨some 72, none, .ld (.t 5)⟩,
      ⟨some 73, none, .mkf n_impl_RunServers_2 [] [.t 10, .t 5, .t 9]⟩,
      ⟨some 74, none, .call (.k (.fn n_impl_simulate [] [])) [.t 72, .t 73]⟩,
      ⟨some 75, none, .fa 0 (.t 9)⟩,
      ⟨none, none, .st 2 (.t 75) (.t 74)⟩])
    (.seq (.ops [⟨some 76, none, .ldn 4 (.t 9)⟩,
      ⟨none, none, .st 4 (.t 8) (.t 76)⟩])
    (.ret)))))))
theorem k_impl_RunServers : chkF Try.prog Try.f23 77 c_impl_RunServers [.c 8 (some 4)] = true := by kernel_rfl
theorem callC_impl_RunServers {args : List AV} {σ : List AB} {K : AV → List AB → Prop} (hn : args.length ≤ 77) (hw : Closed σ → args.all (below1 σ.length) = true → wpC Try.prog σ.length 77 c_impl_RunServers (retP σ.length [.c 8 (some 4)] K) ⟨initT 0 args, σ⟩) : CallWp Try.prog n_impl_RunServers args σ K := call_fnC mixed Try.func23 k_impl_RunServers hn hw
def l0_spec_ServersValid : LC := .seq (.seq (.ops [⟨some 4, none, .mv (.t 3)⟩,
      ⟨some 5, none, .mv (.t 0)⟩,
      ⟨some 6, none, .len (.t 5)⟩,
      ⟨some 7, none, .bin .lss (.t 4) (.t 6)⟩])
    (.cond (.t 7) (.skip)
    (.exit 0)))
    (.seq (.block 1 (.seq (.draw 21 [⟨some 10, none, .mv (.t 0)⟩,
      ⟨some 11, none, .mv (.t 3)⟩,
      ⟨some 12, none, .ia 2 (.t 10) (.t 11)⟩,
      ⟨some 13, none, .fa 0 (.t 12)⟩,
      ⟨some 14, none, .ld (.t 13)⟩,
      ⟨some 15, none, .mv (.t 0)⟩,
      ⟨some 16, none, .mv (.t 3)⟩,
      ⟨some 17, none, .ia 2 (.t 15) (.t 16)⟩,
      ⟨some 18, none, .fa 1 (.t 17)⟩,
      ⟨some 19, none, .ld (.t 18)⟩,
      ⟨some 20, none, .call (.k (.fn n_spec_l1In [] [])) [.t 14, .k (.i .i64 1), .t 19]⟩,
      ⟨some 21, none, .not (.t 20)⟩,
      ⟨some 22, none, .mv (.t 21)⟩,
      ⟨some 23, (some (22, false)), .mv (.t 0)⟩,
      ⟨some 24, (some (22, false)), .mv (.t 3)⟩,
      ⟨some 25, (some (22, false)), .ia 2 (.t 23) (.t 24)⟩,
      ⟨some 26, (some (22, false)), .fa 1 (.t 25)⟩,
      ⟨some 27, (some (22, false)), .ld (.t 26)⟩,
      ⟨some 28, (some (22, false)), .call (.k (.fn n_spec_l1In [] [])) [.t 27, .k (.i .i64 1), .k (.i .i64 12)]⟩,
      ⟨some 29, (some (22, false)), .not (.t 28)⟩,
      ⟨some 30, none, .pick (.t 22) (.k (.b true)) (.t 29)⟩])
    (.cond (.t 30) (.seq (.ops [⟨some 2, none, .mv (.k (.b false))⟩])
    (.ret))
    (.skip))))
    (.ops [⟨some 8, none, .mv (.t 3)⟩,
      ⟨some 9, none, .bin .add (.t 8) (.k (.i .i64 1))⟩,
      ⟨some 3, none, .mv (.t 9)⟩]))
def c_spec_ServersValid : LC := .seq (.ops [⟨some 2, none, .mv (.k (.b false))⟩])
    (.seq (.seq (.ops [⟨some 3, none, .mv (.k (.i .i64 0))⟩])
    (.block 0 (.loop l0_spec_ServersValid)))
    (.seq (.ops [⟨some 31, none, .mv (.t 0)⟩,
      ⟨some 32, none, .len (.t 31)⟩,
      ⟨some 33, none, .bin .leq (.t 32) (.k (.i .i64 2))⟩,
      ⟨some 2, none, .mv (.t 33)⟩])
    (.ret)))
theorem k_spec_ServersValid : chkF Try.prog Try.f24 34 c_spec_ServersValid [.t 2] = true := by kernel_rfl
theorem call_spec_ServersValid {args : List AV} {σ : List AB} {K : AV → List AB → Prop} (hn : args.length ≤ 34) (hw : wpC Try.prog σ.length 34 c_spec_ServersValid (retP σ.length [.t 2] K) ⟨initT 0 args, σ⟩) : CallWp Try.prog n_spec_ServersValid args σ K := call_fn mixed Try.func24 k_spec_ServersValid hn hw
def l0_spec_ArrivalsLegal : LC := .seq (.seq (.ops [⟨some 4, none, .mv (.t 3)⟩,
      ⟨some 5, none, .mv (.t 0)⟩,
      ⟨some 6, none, .len (.t 5)⟩,
      ⟨some 7, none, .bin .lss (.t 4) (.t 6)⟩])
    (.cond (.t 7) (.skip)
    (.exit 0)))
    (.seq (.block 1 (.seq (.draw 34 [⟨some 10, none, .mv (.t 0)⟩,
      ⟨some 11, none, .mv (.t 3)⟩,
      ⟨some 12, none, .ia 2 (.t 10) (.t 11)⟩,
      ⟨some 13, none, .fa 0 (.t 12)⟩,
      ⟨some 14, none, .ld (.t 13)⟩,
      ⟨some 15, none, .call (.k (.fn n_spec_l1In [] [])) [.t 14, .k (.i .i64 0), .k (.i .i64 119)]⟩,
      ⟨some 16, none, .not (.t 15)⟩,
      ⟨some 17, none, .mv (.t 16)⟩,
      ⟨some 18, (some (17, false)), .mv (.t 0)⟩,
      ⟨some 19, (some (17, false)), .mv (.t 3)⟩,
      ⟨some 20, (some (17, false)), .ia 2 (.t 18) (.t 19)⟩,
      ⟨some 21, (some (17, false)), .fa 1 (.t 20)⟩,
      ⟨some 22, (some (17, false)), .ld (.t 21)⟩,
      ⟨some 23, (some (17, false)), .call (.k (.fn n_spec_l1In [] [])) [.t 22, .k (.i .i64 1), .k (.i .i64 20)]⟩,
      ⟨some 24, (some (17, false)), .not (.t 23)⟩,
      ⟨some 25, none, .pick (.t 17) (.k (.b true)) (.t 24)⟩,
      ⟨some 26, none, .mv (.t 25)⟩,
      ⟨some 27, (some (26, false)), .mv (.t 3)⟩,
      ⟨some 28, (some (26, false)), .bin .gtr (.t 27) (.k (.i .i64 0))⟩,
      ⟨some 29, (some (26, false)), .mv (.t 28)⟩,
      ⟨some 30, (some (29, true)), .mv (.t 0)⟩,
      ⟨some 31, (some (29, true)), .mv (.t 3)⟩,
      ⟨some 32, (some (29, true)), .bin .sub (.t 31) (.k (.i .i64 1))⟩,
      ⟨some 33, (some (29, true)), .ia 2 (.t 30) (.t 32)⟩,
      ⟨some 34, (some (29, true)), .fa 0 (.t 33)⟩,
      ⟨some 35, (some (29, true)), .ld (.t 34)⟩,
      ⟨some 36, (some (29, true)), .mv (.t 0)⟩,
      ⟨some 37, (some (29, true)), .mv (.t 3)⟩,
      ⟨some 38, (some (29, true)), .ia 2 (.t 36) (.t 37)⟩,
      ⟨some 39, (some (29, true)), .fa 0 (.t 38)⟩,
      ⟨some 40, (some (29, true)), .ld (.t 39)⟩,
      ⟨some 41, (some (29, true)), .bin .gtr (.t 35) (.t 40)⟩,
      ⟨some 42, (some (26, false)), .pick (.t 29) (.t 41) (.k (.b false))⟩,
      ⟨some 43, none, .pick (.t 26) (.k (.b true)) (.t 42)⟩])
    (.cond (.t 43) (.seq (.ops [⟨some 2, none, .mv (.k (.b false))⟩])
    (.ret))
    (.skip))))
    (.ops [⟨some 8, none, .mv (.t 3)⟩,
      ⟨some 9, none, .bin .add (.t 8) (.k (.i .i64 1))⟩,
      ⟨some 3, none, .mv (.t 9)⟩]))
def c_spec_ArrivalsLegal : LC := .seq (.ops [⟨some 2, none, .mv (.k (.b false))⟩])
    (.seq (.seq (.ops [⟨some 3, none, .mv (.k (.i .i64 0))⟩])
    (.block 0 (.loop l0_spec_ArrivalsLegal)))
    (.seq (.ops [⟨some 44, none, .mv (.t 0)⟩,
      ⟨some 45, none, .len (.t 44)⟩,
      ⟨some 46, none, .bin .leq (.t 45) (.k (.i .i64 20))⟩,
      ⟨some 2, none, .mv (.t 46)⟩])
    (.ret)))
theorem k_spec_ArrivalsLegal : chkF Try.prog Try.f25 47 c_spec_ArrivalsLegal [.t 2] = true := by kernel_rfl
theorem call_spec_ArrivalsLegal {args : List AV} {σ : List AB} {K : AV → List AB → Prop} (hn : args.length ≤ 47) (hw : wpC Try.prog σ.length 47 c_spec_ArrivalsLegal (retP σ.length [.t 2] K) ⟨initT 0 args, σ⟩) : CallWp Try.prog n_spec_ArrivalsLegal args σ K := call_fn mixed Try.func25 k_spec_ArrivalsLegal hn hw
def l0_laws_sameRun : LC := .seq (.seq (.ops [⟨some 29, none, .mv (.t 5)⟩,
      ⟨some 30, none, .fa 3 (.t 2)⟩,
      ⟨some 31, none, .ld (.t 30)⟩,
      ⟨some 32, none, .len (.t 31)⟩,
      ⟨some 33, none, .bin .lss (.t 29) (.t 32)⟩])
    (.cond (.t 33) (.skip)
    (.exit 0)))
    (.seq (.block 1 (.seq (.draw 12 [⟨some 36, none, .fa 3 (.t 2)⟩,
      ⟨some 37, none, .ld (.t 36)⟩,
      ⟨some 38, none, .mv (.t 5)⟩,
      ⟨some 39, none, .ia 1 (.t 37) (.t 38)⟩,
      ⟨some 40, none, .ld (.t 39)⟩,
      ⟨some 41, none, .fa 3 (.t 3)⟩,
      ⟨some 42, none, .ld (.t 41)⟩,
      ⟨some 43, none, .mv (.t 5)⟩,
      ⟨some 44, none, .ia 1 (.t 42) (.t 43)⟩,
      ⟨some 45, none, .ld (.t 44)⟩,
      ⟨some 46, none, .call (.k (.fn n_laws_sameInts [] [])) [.t 40, .t 45]⟩,
      ⟨some 47, none, .not (.t 46)⟩])
    (.cond (.t 47) (.seq (.ops [⟨some 4, none, .mv (.k (.b false))⟩])
    (.ret))
    (.skip))))
    (.ops [⟨some 34, none, .mv (.t 5)⟩,
      ⟨some 35, none, .bin .add (.t 34) (.k (.i .i64 1))⟩,
      ⟨some 5, none, .mv (.t 35)⟩]))
def c_laws_sameRun : LC := .seq (.ops [⟨some 2, none, .box ty_impl_ServerRun (.t 0)⟩,
      ⟨some 3, none, .box ty_impl_ServerRun (.t 1)⟩,
      ⟨some 4, none, .mv (.k (.b false))⟩])
    (.seq (.seq (.ops [⟨some 6, none, .fa 0 (.t 2)⟩,
      ⟨some 7, none, .ldn 2 (.t 6)⟩,
      ⟨some 8, none, .fa 0 (.t 3)⟩,
      ⟨some 9, none, .ldn 2 (.t 8)⟩,
      ⟨some 10, none, .call (.k (.fn n_laws_sameSchedule [] [])) [.t 7, .t 9]⟩,
      ⟨some 11, none, .not (.t 10)⟩,
      ⟨some 12, none, .mv (.t 11)⟩,
      ⟨some 13, (some (12, false)), .fa 2 (.t 2)⟩,
      ⟨some 14, (some (12, false)), .ld (.t 13)⟩,
      ⟨some 15, (some (12, false)), .fa 2 (.t 3)⟩,
      ⟨some 16, (some (12, false)), .ld (.t 15)⟩,
      ⟨some 17, (some (12, false)), .call (.k (.fn n_laws_sameInts [] [])) [.t 14, .t 16]⟩,
      ⟨some 18, (some (12, false)), .not (.t 17)⟩,
      ⟨some 19, none, .pick (.t 12) (.k (.b true)) (.t 18)⟩,
      ⟨some 20, none, .mv (.t 19)⟩,
      ⟨some 21, (some (20, false)), .fa 3 (.t 2)⟩,
      ⟨some 22, (some (20, false)), .ld (.t 21)⟩,
      ⟨some 23, (some (20, false)), .len (.t 22)⟩,
      ⟨some 24, (some (20, false)), .fa 3 (.t 3)⟩,
      ⟨some 25, (some (20, false)), .ld (.t 24)⟩,
      ⟨some 26, (some (20, false)), .len (.t 25)⟩,
      ⟨some 27, (some (20, false)), .bin .neq (.t 23) (.t 26)⟩,
      ⟨some 28, none, .pick (.t 20) (.k (.b true)) (.t 27)⟩])
    (.cond (.t 28) (.seq (.ops [⟨some 4, none, .mv (.k (.b false))⟩])
    (.ret))
    (.skip)))
    (.seq (.seq (.ops [⟨some 5, none, .mv (.k (.i .i64 0))⟩])
    (.block 0 (.loop l0_laws_sameRun)))
    (.seq (.ops [⟨some 4, none, .mv (.k (.b true))⟩])
    (.ret))))
theorem k_laws_sameRun : chkF Try.prog Try.f26 48 c_laws_sameRun [.t 4] = true := by kernel_rfl
theorem callC_laws_sameRun {args : List AV} {σ : List AB} {K : AV → List AB → Prop} (hn : args.length ≤ 48) (hw : Closed σ → args.all (below1 σ.length) = true → wpC Try.prog σ.length 48 c_laws_sameRun (retP σ.length [.t 4] K) ⟨initT 0 args, σ⟩) : CallWp Try.prog n_laws_sameRun args σ K := call_fnC mixed Try.func26 k_laws_sameRun hn hw
def l0_spec_RunServers : LC := .seq (.seq (.ops [⟨some 27, none, .mv (.t 9)⟩,
      ⟨some 28, none, .mv (.t 3)⟩,
      ⟨some 29, none, .len (.t 28)⟩,
      ⟨some 30, none, .bin .lss (.t 27) (.t 29)⟩])
    (.cond (.t 30) (.skip)
    (.exit 0)))
    (.seq (.block 1 (.seq (.ops [⟨some 33, none, .mv (.t 3)⟩,
      ⟨some 34, none, .mv (.t 9)⟩,
      ⟨some 35, none, .ia 1 (.t 33) (.t 34)⟩,
      ⟨some 36, none, .ld (.t 35)⟩,
      ⟨some 37, none, .call (.k (.fn n_spec_ArrivalsLegal [] [])) [.t 36]⟩,
      ⟨some 38, none, .not (.t 37)⟩])
    (.cond (.t 38) (.seq (.ops [⟨some 39, none, .build [.sn, .sn, .sn, .sn] []⟩,
      ⟨none, none, .st 4 (.t 8) (.t 39)⟩])
    (.ret))
    (.skip))))
    (.ops [⟨some 31, none, .mv (.t 9)⟩,
      ⟨some 32, none, .bin .add (.t 31) (.k (.i .i64 1))⟩,
      ⟨some 9, none, .mv (.t 32)⟩]))
def c_spec_RunServers : LC := .seq (.ops [⟨some 8, none, .alloc ty_impl_ServerRun [.sn, .sn, .sn, .sn]⟩])
    (.seq (.seq (.ops [⟨some 10, none, .mv (.t 0)⟩,
      ⟨some 11, none, .mv (.t 1)⟩,
      ⟨some 12, none, .call (.k (.fn n_spec_JobsLegal [] [])) [.t 10, .t 11]⟩,
      ⟨some 13, none, .not (.t 12)⟩,
      ⟨some 14, none, .mv (.t 13)⟩,
      ⟨some 15, (some (14, false)), .mv (.t 2)⟩,
      ⟨some 16, (some (14, false)), .call (.k (.fn n_spec_ServersValid [] [])) [.t 15]⟩,
      ⟨some 17, (some (14, false)), .not (.t 16)⟩,
      ⟨some 18, none, .pick (.t 14) (.k (.b true)) (.t 17)⟩,
      ⟨some 19, none, .mv (.t 18)⟩,
      ⟨some 20, (some (19, false)), .mv (.t 3)⟩,
      ⟨some 21, (some (19, false)), .len (.t 20)⟩,
      ⟨some 22, (some (19, false)), .mv (.t 2)⟩,
      ⟨some 23, (some (19, false)), .len (.t 22)⟩,
      ⟨some 24, (some (19, false)), .bin .neq (.t 21) (.t 23)⟩,
      ⟨some 25, none, .pick (.t 19) (.k (.b true)) (.t 24)⟩])
    (.cond (.t 25) (.seq (.ops [⟨some 26, none, .build [.sn, .sn, .sn, .sn] []⟩,
      ⟨none, none, .st 4 (.t 8) (.t 26)⟩])
    (.ret))
    (.skip)))
    (.seq (.seq (.ops [⟨some 9, none, .mv (.k (.i .i64 0))⟩])
    (.block 0 (.loop l0_spec_RunServers)))
    (.seq (.ops [⟨some 40, none, .mv (.t 1)⟩,
      ⟨some 41, none, .mv (.t 2)⟩,
      ⟨some 42, none, .mv (.t 3)⟩,
      ⟨some 43, none, .call (.k (.fn n_spec_l5Run [] [])) [.t 40, .t 41, .t 42]⟩,
      ⟨none, none, .st 4 (.t 8) (.t 43)⟩])
    (.ret))))
theorem k_spec_RunServers : chkF Try.prog Try.f27 44 c_spec_RunServers [.c 8 (some 4)] = true := by kernel_rfl
theorem call_spec_RunServers {args : List AV} {σ : List AB} {K : AV → List AB → Prop} (hn : args.length ≤ 44) (hw : wpC Try.prog σ.length 44 c_spec_RunServers (retP σ.length [.c 8 (some 4)] K) ⟨initT 0 args, σ⟩) : CallWp Try.prog n_spec_RunServers args σ K := call_fn mixed Try.func27 k_spec_RunServers hn hw
def l0_laws_ticks : LC := .seq (.seq (.ops [⟨some 7, none, .mv (.t 6)⟩,
      ⟨some 8, none, .mv (.t 0)⟩,
      ⟨some 9, none, .len (.t 8)⟩,
      ⟨some 10, none, .bin .lss (.t 7) (.t 9)⟩])
    (.cond (.t 10) (.skip)
    (.exit 0)))
    (.seq (.block 1 (.seq (.ops [⟨some 13, none, .mv (.t 0)⟩,
      ⟨some 14, none, .mv (.t 6)⟩,
      ⟨some 15, none, .ia 1 (.t 13) (.t 14)⟩,
      ⟨some 16, none, .ld (.t 15)⟩,
      ⟨some 17, none, .mv (.t 1)⟩,
      ⟨some 18, none, .bin .eql (.t 16) (.t 17)⟩])
    (.cond (.t 18) (.ops [⟨some 19, none, .mv (.t 5)⟩,
      ⟨some 20, none, .bin .add (.t 19) (.k (.i .i64 1))⟩,
      ⟨some 5, none, .mv (.t 20)⟩])
    (.skip))))
    (.ops [⟨some 11, none, .mv (.t 6)⟩,
      ⟨some 12, none, .bin .add (.t 11) (.k (.i .i64 1))⟩,
      ⟨some 6, none, .mv (.t 12)⟩]))
def c_laws_ticks : LC := .seq (.ops [⟨some 4, none, .mv (.k (.i .i64 0))⟩])
    (.seq (.ops [⟨some 5, none, .mv (.k (.i .i64 0))⟩])
    (.seq (.seq (.ops [⟨some 6, none, .mv (.k (.i .i64 0))⟩])
    (.block 0 (.loop l0_laws_ticks)))
    (.seq (.ops [⟨some 21, none, .mv (.t 5)⟩,
      ⟨some 4, none, .mv (.t 21)⟩])
    (.ret))))
theorem k_laws_ticks : chkF Try.prog Try.f28 22 c_laws_ticks [.t 4] = true := by kernel_rfl
theorem call_laws_ticks {args : List AV} {σ : List AB} {K : AV → List AB → Prop} (hn : args.length ≤ 22) (hw : wpC Try.prog σ.length 22 c_laws_ticks (retP σ.length [.t 4] K) ⟨initT 0 args, σ⟩) : CallWp Try.prog n_laws_ticks args σ K := call_fn mixed Try.func28 k_laws_ticks hn hw
def l0_spec_JobsLegal : LC := .seq (.seq (.ops [⟨some 20, none, .mv (.t 6)⟩,
      ⟨some 21, none, .mv (.t 1)⟩,
      ⟨some 22, none, .len (.t 21)⟩,
      ⟨some 23, none, .bin .lss (.t 20) (.t 22)⟩])
    (.cond (.t 23) (.skip)
    (.exit 0)))
    (.seq (.block 1 (.seq (.ops [⟨some 26, none, .mv (.t 1)⟩,
      ⟨some 27, none, .mv (.t 6)⟩,
      ⟨some 28, none, .ia 4 (.t 26) (.t 27)⟩,
      ⟨some 29, none, .ldn 4 (.t 28)⟩,
      ⟨some 7, none, .alloc ty_impl_Job [.i .i64 0, .i .i64 0, .i .i64 0, .i .i64 0]⟩,
      ⟨none, none, .st 4 (.t 7) (.t 29)⟩])
    (.seq (.seq (.ops [⟨some 30, none, .fa 0 (.t 7)⟩,
      ⟨some 31, none, .ld (.t 30)⟩,
      ⟨some 32, none, .mv (.t 0)⟩,
      ⟨some 33, none, .len (.t 32)⟩,
      ⟨some 34, none, .bin .sub (.t 33) (.k (.i .i64 1))⟩,
      ⟨some 35, none, .call (.k (.fn n_spec_l1In [] [])) [.t 31, .k (.i .i64 0), .t 34]⟩,
      ⟨some 36, none, .not (.t 35)⟩,
      ⟨some 37, none, .mv (.t 36)⟩,
      ⟨some 38, (some (37, false)), .fa 1 (.t 7)⟩,
      ⟨some 39, (some (37, false)), .ld (.t 38)⟩,
      ⟨some 40, (some (37, false)), .call (.k (.fn n_spec_l1In [] [])) [.t 39, .k (.i .i64 0), .k (.i .i64 119)]⟩,
      ⟨some 41, (some (37, false)), .not (.t 40)⟩,
      ⟨some 42, none, .pick (.t 37) (.k (.b true)) (.t 41)⟩])
    (.cond (.t 42) (.seq (.ops [⟨some 4, none, .mv (.k (.b false))⟩])
    (.ret))
    (.skip)))
    (.seq (.ops [⟨some 43, none, .mv (.t 0)⟩,
      ⟨some 44, none, .fa 0 (.t 7)⟩,
      ⟨some 45, none, .ld (.t 44)⟩,
      ⟨some 46, none, .ia 3 (.t 43) (.t 45)⟩,
      ⟨some 47, none, .ldn 3 (.t 46)⟩,
      ⟨some 8, none, .alloc ty_impl_Task [.i .i64 0, .i .i64 0, .i .i64 0]⟩,
      ⟨none, none, .st 3 (.t 8) (.t 47)⟩])
    (.seq (.seq (.draw 26 [⟨some 48, none, .fa 1 (.t 7)⟩,
      ⟨some 49, none, .ld (.t 48)⟩,
      ⟨some 50, none, .mv (.t 5)⟩,
      ⟨some 51, none, .fa 0 (.t 7)⟩,
      ⟨some 52, none, .ld (.t 51)⟩,
      ⟨some 53, none, .ia 1 (.t 50) (.t 52)⟩,
      ⟨some 54, none, .ld (.t 53)⟩,
      ⟨some 55, none, .bin .lss (.t 49) (.t 54)⟩,
      ⟨some 56, none, .mv (.t 55)⟩,
      ⟨some 57, (some (56, false)), .fa 2 (.t 7)⟩,
      ⟨some 58, (some (56, false)), .ld (.t 57)⟩,
      ⟨some 59, (some (56, false)), .fa 1 (.t 7)⟩,
      ⟨some 60, (some (56, false)), .ld (.t 59)⟩,
      ⟨some 61, (some (56, false)), .fa 1 (.t 8)⟩,
      ⟨some 62, (some (56, false)), .ld (.t 61)⟩,
      ⟨some 63, (some (56, false)), .bin .add (.t 60) (.t 62)⟩,
      ⟨some 64, (some (56, false)), .bin .neq (.t 58) (.t 63)⟩,
      ⟨some 65, none, .pick (.t 56) (.k (.b true)) (.t 64)⟩,
      ⟨some 66, none, .mv (.t 65)⟩,
      ⟨some 67, (some (66, false)), .fa 3 (.t 7)⟩,
      ⟨some 68, (some (66, false)), .ld (.t 67)⟩,
      ⟨some 69, (some (66, false)), .fa 0 (.t 8)⟩,
      ⟨some 70, (some (66, false)), .ld (.t 69)⟩,
      ⟨some 71, (some (66, false)), .call (.k (.fn n_spec_l1In [] [])) [.t 68, .k (.i .i64 1), .t 70]⟩,
      ⟨some 72, (some (66, false)), .not (.t 71)⟩,
      ⟨some 73, none, .pick (.t 66) (.k (.b true)) (.t 72)⟩])
    (.cond (.t 73) (.seq (.ops [⟨some 4, none, .mv (.k (.b false))⟩])
    (.ret))
    (.skip)))
    (.seq (.seq (.draw 35 [⟨some 74, none, .mv (.t 6)⟩,
      ⟨some 75, none, .bin .gtr (.t 74) (.k (.i .i64 0))⟩,
      ⟨some 76, none, .mv (.t 75)⟩,
      ⟨some 77, (some (76, true)), .mv (.t 1)⟩,
      ⟨some 78, (some (76, true)), .mv (.t 6)⟩,
      ⟨some 79, (some (76, true)), .bin .sub (.t 78) (.k (.i .i64 1))⟩,
      ⟨some 80, (some (76, true)), .ia 4 (.t 77) (.t 79)⟩,
      ⟨some 81, (some (76, true)), .fa 1 (.t 80)⟩,
      ⟨some 82, (some (76, true)), .ld (.t 81)⟩,
      ⟨some 83, (some (76, true)), .fa 1 (.t 7)⟩,
      ⟨some 84, (some (76, true)), .ld (.t 83)⟩,
      ⟨some 85, (some (76, true)), .bin .gtr (.t 82) (.t 84)⟩,
      ⟨some 86, (some (76, true)), .mv (.t 85)⟩,
      ⟨some 87, (some (86, false)), .mv (.t 1)⟩,
      ⟨some 88, (some (86, false)), .mv (.t 6)⟩,
      ⟨some 89, (some (86, false)), .bin .sub (.t 88) (.k (.i .i64 1))⟩,
      ⟨some 90, (some (86, false)), .ia 4 (.t 87) (.t 89)⟩,
      ⟨some 91, (some (86, false)), .fa 1 (.t 90)⟩,
      ⟨some 92, (some (86, false)), .ld (.t 91)⟩,
      ⟨some 93, (some (86, false)), .fa 1 (.t 7)⟩,
      ⟨some 94, (some (86, false)), .ld (.t 93)⟩,
      ⟨some 95, (some (86, false)), .bin .eql (.t 92) (.t 94)⟩,
      ⟨some 96, (some (86, false)), .mv (.t 95)⟩,
      ⟨some 97, (some (96, true)), .mv (.t 1)⟩,
      ⟨some 98, (some (96, true)), .mv (.t 6)⟩,
      ⟨some 99, (some (96, true)), .bin .sub (.t 98) (.k (.i .i64 1))⟩,
      ⟨some 100, (some (96, true)), .ia 4 (.t 97) (.t 99)⟩,
      ⟨some 101, (some (96, true)), .fa 0 (.t 100)⟩,
      ⟨some 102, (some (96, true)), .ld (.t 101)⟩,
      ⟨some 103, (some (96, true)), .fa 0 (.t 7)⟩,
      ⟨some 104, (some (96, true)), .ld (.t 103)⟩,
      ⟨some 105, (some (96, true)), .bin .geq (.t 102) (.t 104)⟩,
      ⟨some 106, (some (86, false)), .pick (.t 96) (.t 105) (.k (.b false))⟩,
      ⟨some 107, (some (76, true)), .pick (.t 86) (.k (.b true)) (.t 106)⟩,
      ⟨some 108, none, .pick (.t 76) (.t 107) (.k (.b false))⟩])
    (.cond (.t 108) (.seq (.ops [⟨some 4, none, .mv (.k (.b false))⟩])
    (.ret))
    (.skip)))
    (.ops [⟨some 109, none, .mv (.t 5)⟩,
      ⟨some 110, none, .fa 0 (.t 7)⟩,
      ⟨some 111, none, .ld (.t 110)⟩,
      ⟨some 112, none, .fa 1 (.t 7)⟩,
      ⟨some 113, none, .ld (.t 112)⟩,
      ⟨some 114, none, .fa 2 (.t 8)⟩,
      ⟨some 115, none, .ld (.t 114)⟩,
      ⟨some 116, none, .bin .add (.t 113) (.t 115)⟩,
      ⟨some 117, none, .ia 1 (.t 109) (.t 111)⟩,
      ⟨none, none, .st 1 (.t 117) (.t 116)⟩])))))))
    (.ops [⟨some 24, none, .mv (.t 6)⟩,
      ⟨some 25, none, .bin .add (.t 24) (.k (.i .i64 1))⟩,
      ⟨some 6, none, .mv (.t 25)⟩]))
def c_spec_JobsLegal : LC := .seq (.ops [⟨some 4, none, .mv (.k (.b false))⟩])
    (.seq (.seq (.ops [⟨some 9, none, .mv (.t 0)⟩,
      ⟨some 10, none, .call (.k (.fn n_spec_SetValid [] [])) [.t 9]⟩,
      ⟨some 11, none, .not (.t 10)⟩,
      ⟨some 12, none, .mv (.t 11)⟩,
      ⟨some 13, (some (12, false)), .mv (.t 1)⟩,
      ⟨some 14, (some (12, false)), .len (.t 13)⟩,
      ⟨some 15, (some (12, false)), .bin .gtr (.t 14) (.k (.i .i64 60))⟩,
      ⟨some 16, none, .pick (.t 12) (.k (.b true)) (.t 15)⟩])
    (.cond (.t 16) (.seq (.ops [⟨some 4, none, .mv (.k (.b false))⟩])
    (.ret))
    (.skip)))
    (.seq (.ops [⟨some 17, none, .mv (.t 0)⟩,
      ⟨some 18, none, .len (.t 17)⟩,
      ⟨some 19, none, .msl ty_int 8 [.i .i64 0] (.t 18)⟩,
      ⟨some 5, none, .mv (.t 19)⟩])
    (.seq (.seq (.ops [⟨some 6, none, .mv (.k (.i .i64 0))⟩])
    (.block 0 (.loop l0_spec_JobsLegal)))
    (.seq (.ops [⟨some 4, none, .mv (.k (.b true))⟩])
    (.ret)))))
theorem k_spec_JobsLegal : chkF Try.prog Try.f33 118 c_spec_JobsLegal [.t 4] = true := by kernel_rfl
theorem call_spec_JobsLegal {args : List AV} {σ : List AB} {K : AV → List AB → Prop} (hn : args.length ≤ 118) (hw : wpC Try.prog σ.length 118 c_spec_JobsLegal (retP σ.length [.t 4] K) ⟨initT 0 args, σ⟩) : CallWp Try.prog n_spec_JobsLegal args σ K := call_fn mixed Try.func33 k_spec_JobsLegal hn hw
def c_spec_l20Open : LC := .seq (.ops [⟨some 2, none, .mv (.k (.pn))⟩])
    (.join (.seq (.ops [⟨some 3, none, .mv (.t 0)⟩,
      ⟨some 4, none, .len (.t 3)⟩,
      ⟨some 5, none, .bin .gtr (.t 4) (.k (.i .i64 2000))⟩])
    (.cond (.t 5) (.ops [⟨some 6, none, .mv (.t 0)⟩,
      ⟨some 7, none, .slc 1 (.t 6) none (some (.k (.i .i64 2000))) none⟩,
      ⟨some 0, none, .mv (.t 7)⟩])
    (.skip)))
    (.seq (.ops [⟨some 8, none, .mv (.t 0)⟩,
      ⟨some 9, none, .build [.sn, .i .i64 0] [(0, 1, .t 8)]⟩,
      ⟨some 10, none, .box ty_spec_l20Rd (.t 9)⟩,
      ⟨some 2, none, .mv (.t 10)⟩])
    (.ret)))
theorem k_spec_l20Open : chkF Try.prog Try.f34 11 c_spec_l20Open [.t 2] = true := by kernel_rfl
theorem call_spec_l20Open {args : List AV} {σ : List AB} {K : AV → List AB → Prop} (hn : args.length ≤ 11) (hw : wpC Try.prog σ.length 11 c_spec_l20Open (retP σ.length [.t 2] K) ⟨initT 0 args, σ⟩) : CallWp Try.prog n_spec_l20Open args σ K := call_fn mixed Try.func34 k_spec_l20Open hn hw
def l0_spec_l20Set : LC := .seq (.seq (.ops [⟨some 25, none, .mv (.t 5)⟩,
      ⟨some 26, none, .len (.t 25)⟩,
      ⟨some 27, none, .bin .leq (.t 26) (.k (.i .i64 5))⟩])
    (.cond (.t 27) (.skip)
    (.exit 2)))
    (.block 3 (.ops [⟨some 28, none, .mv (.t 5)⟩,
      ⟨some 29, none, .mv (.t 0)⟩,
      ⟨some 30, none, .call (.k (.fn n_spec_l20Task [] [])) [.t 29, .k (.i .i64 0)]⟩,
      ⟨some 31, none, .bsl ty_impl_Task [.i .i64 0, .i .i64 0, .i .i64 0] 1 [(0, 3, .t 30)]⟩,
      ⟨some 32, none, .app ty_impl_Task 3 24 (.t 28) (.t 31)⟩,
      ⟨some 5, none, .mv (.t 32)⟩]))
def l1_spec_l20Set : LC := .seq (.seq (.ops [⟨some 10, none, .mv (.t 6)⟩,
      ⟨some 11, none, .bin .gtr (.t 10) (.k (.i .i64 0))⟩])
    (.cond (.t 11) (.skip)
    (.exit 0)))
    (.seq (.block 1 (.ops [⟨some 14, none, .mv (.t 5)⟩,
      ⟨some 15, none, .mv (.t 0)⟩,
      ⟨some 16, none, .call (.k (.fn n_spec_l20Task [] [])) [.t 15, .k (.i .i64 0)]⟩,
      ⟨some 17, none, .bsl ty_impl_Task [.i .i64 0, .i .i64 0, .i .i64 0] 1 [(0, 3, .t 16)]⟩,
      ⟨some 18, none, .app ty_impl_Task 3 24 (.t 14) (.t 17)⟩,
      ⟨some 5, none, .mv (.t 18)⟩]))
    (.ops [⟨some 12, none, .mv (.t 6)⟩,
      ⟨some 13, none, .bin .sub (.t 12) (.k (.i .i64 1))⟩,
      ⟨some 6, none, .mv (.t 13)⟩]))
def c_spec_l20Set : LC := .seq (.ops [⟨some 4, none, .mv (.k (.sn))⟩])
    (.seq (.ops [⟨some 7, none, .bsl ty_impl_Task [.i .i64 0, .i .i64 0, .i .i64 0] 0 []⟩,
      ⟨some 5, none, .mv (.t 7)⟩])
    (.seq (.seq (.ops [⟨some 8, none, .mv (.t 0)⟩,
      ⟨some 9, none, .call (.k (.fn n_spec_l20Rd_pick [] [])) [.t 8, .k (.i .i64 6)]⟩,
      ⟨some 6, none, .mv (.t 9)⟩])
    (.block 0 (.loop l1_spec_l20Set)))
    (.join (.seq (.ops [⟨some 19, none, .mv (.t 0)⟩,
      ⟨some 20, none, .mv (.t 1)⟩,
      ⟨some 21, none, .call (.k (.fn n_spec_l20Rd_odd [] [])) [.t 19, .t 20]⟩])
    (.cond (.t 21) (.seq (.seq (.ops [⟨some 22, none, .mv (.t 0)⟩,
      ⟨some 23, none, .call (.k (.fn n_spec_l20Rd_pick [] [])) [.t 22, .k (.i .i64 3)]⟩,
      ⟨some 24, none, .bin .eql (.t 23) (.k (.i .i64 0))⟩])
    (.cond (.t 24) (.block 2 (.loop l0_spec_l20Set))
    (.skip)))
    (.ops [⟨some 33, none, .mv (.t 5)⟩,
      ⟨some 34, none, .mv (.t 0)⟩,
      ⟨some 35, none, .call (.k (.fn n_spec_l20Task [] [])) [.t 34, .k (.i .i64 2)]⟩,
      ⟨some 36, none, .bsl ty_impl_Task [.i .i64 0, .i .i64 0, .i .i64 0] 1 [(0, 3, .t 35)]⟩,
      ⟨some 37, none, .app ty_impl_Task 3 24 (.t 33) (.t 36)⟩,
      ⟨some 5, none, .mv (.t 37)⟩]))
    (.skip)))
    (.seq (.ops [⟨some 38, none, .mv (.t 5)⟩,
      ⟨some 4, none, .mv (.t 38)⟩])
    (.ret)))))
theorem k_spec_l20Set : chkF Try.prog Try.f35 39 c_spec_l20Set [.t 4] = true := by kernel_rfl
theorem call_spec_l20Set {args : List AV} {σ : List AB} {K : AV → List AB → Prop} (hn : args.length ≤ 39) (hw : wpC Try.prog σ.length 39 c_spec_l20Set (retP σ.length [.t 4] K) ⟨initT 0 args, σ⟩) : CallWp Try.prog n_spec_l20Set args σ K := call_fn mixed Try.func35 k_spec_l20Set hn hw
def l0_spec_SetValid : LC := .seq (.seq (.ops [⟨some 4, none, .mv (.t 3)⟩,
      ⟨some 5, none, .mv (.t 0)⟩,
      ⟨some 6, none, .len (.t 5)⟩,
      ⟨some 7, none, .bin .lss (.t 4) (.t 6)⟩])
    (.cond (.t 7) (.skip)
    (.exit 0)))
    (.seq (.block 1 (.seq (.ops [⟨some 10, none, .mv (.t 0)⟩,
      ⟨some 11, none, .mv (.t 3)⟩,
      ⟨some 12, none, .ia 3 (.t 10) (.t 11)⟩,
      ⟨some 13, none, .ldn 3 (.t 12)⟩,
      ⟨some 14, none, .call (.k (.fn n_spec_TaskValid [] [])) [.t 13]⟩,
      ⟨some 15, none, .not (.t 14)⟩])
    (.cond (.t 15) (.seq (.ops [⟨some 2, none, .mv (.k (.b false))⟩])
    (.ret))
    (.skip))))
    (.ops [⟨some 8, none, .mv (.t 3)⟩,
      ⟨some 9, none, .bin .add (.t 8) (.k (.i .i64 1))⟩,
      ⟨some 3, none, .mv (.t 9)⟩]))
def c_spec_SetValid : LC := .seq (.ops [⟨some 2, none, .mv (.k (.b false))⟩])
    (.seq (.seq (.ops [⟨some 3, none, .mv (.k (.i .i64 0))⟩])
    (.block 0 (.loop l0_spec_SetValid)))
    (.seq (.ops [⟨some 16, none, .mv (.t 0)⟩,
      ⟨some 17, none, .len (.t 16)⟩,
      ⟨some 18, none, .bin .leq (.t 17) (.k (.i .i64 5))⟩,
      ⟨some 2, none, .mv (.t 18)⟩])
    (.ret)))
theorem k_spec_SetValid : chkF Try.prog Try.f37 19 c_spec_SetValid [.t 2] = true := by kernel_rfl
theorem call_spec_SetValid {args : List AV} {σ : List AB} {K : AV → List AB → Prop} (hn : args.length ≤ 19) (hw : wpC Try.prog σ.length 19 c_spec_SetValid (retP σ.length [.t 2] K) ⟨initT 0 args, σ⟩) : CallWp Try.prog n_spec_SetValid args σ K := call_fn mixed Try.func37 k_spec_SetValid hn hw
def l0_spec_l20Jobs : LC := .seq (.seq (.ops [⟨some 103, none, .mv (.t 7)⟩,
      ⟨some 104, none, .len (.t 103)⟩,
      ⟨some 105, none, .bin .leq (.t 104) (.k (.i .i64 60))⟩])
    (.cond (.t 105) (.skip)
    (.exit 5)))
    (.block 6 (.ops [⟨some 106, none, .mv (.t 7)⟩,
      ⟨some 107, none, .build [.i .i64 0, .i .i64 0, .i .i64 0, .i .i64 0] [(1, 1, .k (.i .i64 119)), (2, 1, .k (.i .i64 120)), (3, 1, .k (.i .i64 1))]⟩,
      ⟨some 108, none, .bsl ty_impl_Job [.i .i64 0, .i .i64 0, .i .i64 0, .i .i64 0] 1 [(0, 4, .t 107)]⟩,
      ⟨some 109, none, .app ty_impl_Job 4 32 (.t 106) (.t 108)⟩,
      ⟨some 7, none, .mv (.t 109)⟩]))
def l1_spec_l20Jobs : LC := .seq (.seq (.ops [⟨some 24, none, .mv (.t 11)⟩,
      ⟨some 25, none, .mv (.t 1)⟩,
      ⟨some 26, none, .len (.t 25)⟩,
      ⟨some 27, none, .bin .lss (.t 24) (.t 26)⟩])
    (.cond (.t 27) (.skip)
    (.exit 2)))
    (.seq (.block 3 (.seq (.join (.ops [⟨some 30, none, .mv (.t 10)⟩,
      ⟨some 31, none, .mv (.t 8)⟩,
      ⟨some 32, none, .mv (.t 11)⟩,
      ⟨some 33, none, .ia 1 (.t 31) (.t 32)⟩,
      ⟨some 34, none, .ld (.t 33)⟩,
      ⟨some 35, none, .bin .lss (.t 30) (.t 34)⟩,
      ⟨some 36, none, .mv (.t 35)⟩,
      ⟨some 37, (some (36, false)), .mv (.t 7)⟩,
      ⟨some 38, (some (36, false)), .len (.t 37)⟩,
      ⟨some 39, (some (36, false)), .bin .eql (.t 38) (.k (.i .i64 60))⟩,
      ⟨some 40, none, .pick (.t 36) (.k (.b true)) (.t 39)⟩,
      ⟨some 41, none, .mv (.t 40)⟩,
      ⟨some 42, (some (41, false)), .mv (.t 9)⟩,
      ⟨some 43, (some (41, false)), .bin .lss (.t 42) (.k (.i .i64 2))⟩,
      ⟨some 44, (some (41, false)), .mv (.t 43)⟩,
      ⟨some 45, (some (44, true)), .mv (.t 0)⟩,
      ⟨some 46, (some (44, true)), .mv (.t 9)⟩,
      ⟨some 47, (some (44, true)), .bin .mul (.k (.i .i64 7)) (.t 46)⟩,
      ⟨some 48, (some (44, true)), .bin .add (.k (.i .i64 3)) (.t 47)⟩,
      ⟨some 49, (some (44, true)), .call (.k (.fn n_spec_l20Rd_pick [] [])) [.t 45, .t 48]⟩,
      ⟨some 50, (some (44, true)), .bin .gtr (.t 49) (.k (.i .i64 1))⟩,
      ⟨some 51, (some (41, false)), .pick (.t 44) (.t 50) (.k (.b false))⟩,
      ⟨some 52, none, .pick (.t 41) (.k (.b true)) (.t 51)⟩])
    (.cond (.t 52) (.exit 3)
    (.skip)))
    (.seq (.ops [⟨some 53, none, .mv (.t 1)⟩,
      ⟨some 54, none, .mv (.t 11)⟩,
      ⟨some 55, none, .ia 3 (.t 53) (.t 54)⟩,
      ⟨some 56, none, .fa 0 (.t 55)⟩,
      ⟨some 57, none, .ld (.t 56)⟩,
      ⟨some 12, none, .mv (.t 57)⟩])
    (.join (.seq (.ops [⟨some 58, none, .mv (.t 0)⟩,
      ⟨some 59, none, .call (.k (.fn n_spec_l20Rd_pick [] [])) [.t 58, .k (.i .i64 3)]⟩,
      ⟨some 60, none, .bin .eql (.t 59) (.k (.i .i64 0))⟩])
    (.cond (.t 60) (.ops [⟨some 61, none, .mv (.t 0)⟩,
      ⟨some 62, none, .mv (.t 12)⟩,
      ⟨some 63, none, .call (.k (.fn n_spec_l20Rd_pick [] [])) [.t 61, .t 62]⟩,
      ⟨some 64, none, .bin .add (.k (.i .i64 1)) (.t 63)⟩,
      ⟨some 12, none, .mv (.t 64)⟩])
    (.skip)))
    (.seq (.ops [⟨some 65, none, .mv (.t 7)⟩,
      ⟨some 66, none, .mv (.t 11)⟩,
      ⟨some 67, none, .mv (.t 10)⟩,
      ⟨some 68, none, .mv (.t 10)⟩,
      ⟨some 69, none, .mv (.t 1)⟩,
      ⟨some 70, none, .mv (.t 11)⟩,
      ⟨some 71, none, .ia 3 (.t 69) (.t 70)⟩,
      ⟨some 72, none, .fa 1 (.t 71)⟩,
      ⟨some 73, none, .ld (.t 72)⟩,
      ⟨some 74, none, .bin .add (.t 68) (.t 73)⟩,
      ⟨some 75, none, .mv (.t 12)⟩,
      ⟨some 76, none, .build [.i .i64 0, .i .i64 0, .i .i64 0, .i .i64 0] [(0, 1, .t 66), (1, 1, .t 67), (2, 1, .t 74), (3, 1, .t 75)]⟩,
      ⟨some 77, none, .bsl ty_impl_Job [.i .i64 0, .i .i64 0, .i .i64 0, .i .i64 0] 1 [(0, 4, .t 76)]⟩,
      ⟨some 78, none, .app ty_impl_Job 4 32 (.t 65) (.t 77)⟩,
      ⟨some 7, none, .mv (.t 78)⟩])
    (.ops [⟨some 79, none, .mv (.t 8)⟩,
      ⟨some 80, none, .mv (.t 11)⟩,
      ⟨some 81, none, .mv (.t 10)⟩,
      ⟨some 82, none, .mv (.t 1)⟩,
      ⟨some 83, none, .mv (.t 11)⟩,
      ⟨some 84, none, .ia 3 (.t 82) (.t 83)⟩,
      ⟨some 85, none, .fa 2 (.t 84)⟩,
      ⟨some 86, none, .ld (.t 85)⟩,
      ⟨some 87, none, .bin .add (.t 81) (.t 86)⟩,
      ⟨some 88, none, .ia 1 (.t 79) (.t 80)⟩,
      ⟨none, none, .st 1 (.t 88) (.t 87)⟩]))))))
    (.ops [⟨some 28, none, .mv (.t 11)⟩,
      ⟨some 29, none, .bin .add (.t 28) (.k (.i .i64 1))⟩,
      ⟨some 11, none, .mv (.t 29)⟩]))
def l2_spec_l20Jobs : LC := .seq (.seq (.ops [⟨some 20, none, .mv (.t 10)⟩,
      ⟨some 21, none, .bin .lss (.t 20) (.k (.i .i64 100))⟩])
    (.cond (.t 21) (.skip)
    (.exit 0)))
    (.seq (.block 1 (.seq (.ops [⟨some 11, none, .mv (.k (.i .i64 0))⟩])
    (.block 2 (.loop l1_spec_l20Jobs))))
    (.ops [⟨some 22, none, .mv (.t 10)⟩,
      ⟨some 23, none, .bin .add (.t 22) (.k (.i .i64 1))⟩,
      ⟨some 10, none, .mv (.t 23)⟩]))
def c_spec_l20Jobs : LC := .seq (.ops [⟨some 6, none, .mv (.k (.sn))⟩])
    (.seq (.ops [⟨some 14, none, .bsl ty_impl_Job [.i .i64 0, .i .i64 0, .i .i64 0, .i .i64 0] 0 []⟩,
      ⟨some 7, none, .mv (.t 14)⟩])
    (.seq (.ops [⟨some 15, none, .mv (.t 1)⟩,
      ⟨some 16, none, .len (.t 15)⟩,
      ⟨some 17, none, .msl ty_int 8 [.i .i64 0] (.t 16)⟩,
      ⟨some 8, none, .mv (.t 17)⟩])
    (.seq (.ops [⟨some 18, none, .mv (.t 0)⟩,
      ⟨some 19, none, .call (.k (.fn n_spec_l20Rd_pick [] [])) [.t 18, .k (.i .i64 3)]⟩,
      ⟨some 9, none, .mv (.t 19)⟩])
    (.seq (.seq (.ops [⟨some 10, none, .mv (.k (.i .i64 0))⟩])
    (.block 0 (.loop l2_spec_l20Jobs)))
    (.join (.seq (.ops [⟨some 89, none, .mv (.t 0)⟩,
      ⟨some 90, none, .mv (.t 2)⟩,
      ⟨some 91, none, .call (.k (.fn n_spec_l20Rd_odd [] [])) [.t 89, .t 90]⟩,
      ⟨some 92, none, .mv (.t 91)⟩,
      ⟨some 93, (some (92, true)), .mv (.t 7)⟩,
      ⟨some 94, (some (92, true)), .len (.t 93)⟩,
      ⟨some 95, (some (92, true)), .bin .gtr (.t 94) (.k (.i .i64 0))⟩,
      ⟨some 96, none, .pick (.t 92) (.t 95) (.k (.b false))⟩])
    (.cond (.t 96) (.seq (.ops [⟨some 97, none, .mv (.t 0)⟩,
      ⟨some 98, none, .mv (.t 7)⟩,
      ⟨some 99, none, .len (.t 98)⟩,
      ⟨some 100, none, .call (.k (.fn n_spec_l20Rd_pick [] [])) [.t 97, .t 99]⟩,
      ⟨some 13, none, .mv (.t 100)⟩])
    (.seq (.ops [⟨some 101, none, .mv (.t 0)⟩,
      ⟨some 102, none, .call (.k (.fn n_spec_l20Rd_pick [] [])) [.t 101, .k (.i .i64 6)]⟩])
    (.block 4 (.seq (.ops [⟨some 111, none, .bin .eql (.t 102) (.k (.i .i64 0))⟩,
      ⟨some 110, none, .mv (.t 111)⟩])
    (.cond (.t 110) (.ops [⟨some 112, none, .mv (.t 7)⟩,
      ⟨some 113, none, .mv (.t 13)⟩,
      ⟨some 114, none, .mv (.t 1)⟩,
      ⟨some 115, none, .len (.t 114)⟩,
      ⟨some 116, none, .bsl ty_int [.i .i64 0] 2 [(0, 1, .k (.i .i64 (-1))), (1, 1, .t 115)]⟩,
      ⟨some 117, none, .mv (.t 0)⟩,
      ⟨some 118, none, .call (.k (.fn n_spec_l20Rd_pick [] [])) [.t 117, .k (.i .i64 2)]⟩,
      ⟨some 119, none, .ia 1 (.t 116) (.t 118)⟩,
      ⟨some 120, none, .ld (.t 119)⟩,
      ⟨some 121, none, .ia 4 (.t 112) (.t 113)⟩,
      ⟨some 122, none, .fa 0 (.t 121)⟩,
      ⟨none, none, .st 1 (.t 122) (.t 120)⟩])
    (.seq (.ops [⟨some 124, none, .bin .eql (.t 102) (.k (.i .i64 1))⟩,
      ⟨some 123, none, .mv (.t 124)⟩])
    (.cond (.t 123) (.plan [0, 1, 2, 3, 4, 5, 6, 7, 9] [⟨some 125, none, .mv (.t 7)⟩,
      ⟨some 126, none, .mv (.t 13)⟩,
      ⟨some 127, none, .mv (.t 7)⟩,
      ⟨some 128, none, .mv (.t 13)⟩,
      ⟨some 129, none, .ia 4 (.t 127) (.t 128)⟩,
      ⟨some 130, none, .fa 1 (.t 129)⟩,
      ⟨some 131, none, .ld (.t 130)⟩,
      ⟨some 132, none, .bin .add (.t 131) (.k (.i .i64 1))⟩,
      ⟨some 134, none, .mv (.t 0)⟩]
      (.alt (.one 8 ⟨some 133, none, .bsl ty_int [.i .i64 0] 3 [(0, 1, .k (.i .i64 (-1))), (1, 1, .k (.i .i64 120)), (2, 1, .t 132)]⟩ [(131, none, 130)] []
        []
      (.one 10 ⟨some 135, none, .call (.k (.fn n_spec_l20Rd_pick [] [])) [.t 134, .k (.i .i64 3)]⟩ [(131, none, 130)] [11, 12, 13, 14]
        [⟨some 136, none, .ia 1 (.t 133) (.t 135)⟩,
        ⟨some 137, none, .ld (.t 136)⟩,
        ⟨some 138, none, .ia 4 (.t 125) (.t 126)⟩,
        ⟨some 139, none, .fa 1 (.t 138)⟩]
      (.one 15 ⟨none, none, .st 1 (.t 139) (.t 137)⟩ [] []
        []
      .fin))) (.one 10 ⟨some 135, none, .call (.k (.fn n_spec_l20Rd_pick [] [])) [.t 134, .k (.i .i64 3)]⟩ [(131, none, 130)] []
        []
      (.one 8 ⟨some 133, none, .bsl ty_int [.i .i64 0] 3 [(0, 1, .k (.i .i64 (-1))), (1, 1, .k (.i .i64 120)), (2, 1, .t 132)]⟩ [(131, none, 130)] [11, 12, 13, 14]
        [⟨some 136, none, .ia 1 (.t 133) (.t 135)⟩,
        ⟨some 137, none, .ld (.t 136)⟩,
        ⟨some 138, none, .ia 4 (.t 125) (.t 126)⟩,
        ⟨some 139, none, .fa 1 (.t 138)⟩]
      (.one 15 ⟨none, none, .st 1 (.t 139) (.t 137)⟩ [] []
        []
      .fin)))))
    (.seq (.ops [⟨some 141, none, .bin .eql (.t 102) (.k (.i .i64 2))⟩,
      ⟨some 140, none, .mv (.t 141)⟩])
    (.cond (.t 140) (.ops [⟨some 142, none, .mv (.t 7)⟩,
      ⟨some 143, none, .mv (.t 13)⟩,
      ⟨some 144, none, .mv (.t 7)⟩,
      ⟨some 145, none, .mv (.t 13)⟩,
      ⟨some 146, none, .ia 4 (.t 144) (.t 145)⟩,
      ⟨some 147, none, .fa 2 (.t 146)⟩,
      ⟨some 148, none, .ld (.t 147)⟩,
      ⟨some 149, none, .bin .add (.t 148) (.k (.i .i64 1))⟩,
      ⟨some 150, none, .ia 4 (.t 142) (.t 143)⟩,
      ⟨some 151, none, .fa 2 (.t 150)⟩,
      ⟨none, none, .st 1 (.t 151) (.t 149)⟩])
    (.seq (.ops [⟨some 153, none, .bin .eql (.t 102) (.k (.i .i64 3))⟩,
      ⟨some 152, none, .mv (.t 153)⟩])
    (.cond (.t 152) (.ops [⟨some 154, none, .mv (.t 7)⟩,
      ⟨some 155, none, .mv (.t 13)⟩,
      ⟨some 156, none, .bsl ty_int [.i .i64 0] 2 [(0, 1, .k (.i .i64 0)), (1, 1, .k (.i .i64 9))]⟩,
      ⟨some 157, none, .mv (.t 0)⟩,
      ⟨some 158, none, .call (.k (.fn n_spec_l20Rd_pick [] [])) [.t 157, .k (.i .i64 2)]⟩,
      ⟨some 159, none, .ia 1 (.t 156) (.t 158)⟩,
      ⟨some 160, none, .ld (.t 159)⟩,
      ⟨some 161, none, .ia 4 (.t 154) (.t 155)⟩,
      ⟨some 162, none, .fa 3 (.t 161)⟩,
      ⟨none, none, .st 1 (.t 162) (.t 160)⟩])
    (.seq (.ops [⟨some 164, none, .bin .eql (.t 102) (.k (.i .i64 4))⟩,
      ⟨some 163, none, .mv (.t 164)⟩])
    (.cond (.t 163) (.ops [⟨some 165, none, .mv (.t 7)⟩,
      ⟨some 166, none, .mv (.t 7)⟩,
      ⟨some 167, none, .mv (.t 13)⟩,
      ⟨some 168, none, .ia 4 (.t 166) (.t 167)⟩,
      ⟨some 169, none, .ldn 4 (.t 168)⟩,
      ⟨some 170, none, .bsl ty_impl_Job [.i .i64 0, .i .i64 0, .i .i64 0, .i .i64 0] 1 [(0, 4, .t 169)]⟩,
      ⟨some 171, none, .app ty_impl_Job 4 32 (.t 165) (.t 170)⟩,
      ⟨some 7, none, .mv (.t 171)⟩])
    (.block 5 (.loop l0_spec_l20Jobs)))))))))))))))
    (.skip)))
    (.seq (.ops [⟨some 172, none, .mv (.t 7)⟩,
      ⟨some 6, none, .mv (.t 172)⟩])
    (.ret)))))))
theorem k_spec_l20Jobs : chkF Try.prog Try.f38 173 c_spec_l20Jobs [.t 6] = true := by kernel_rfl
theorem call_spec_l20Jobs {args : List AV} {σ : List AB} {K : AV → List AB → Prop} (hn : args.length ≤ 173) (hw : wpC Try.prog σ.length 173 c_spec_l20Jobs (retP σ.length [.t 6] K) ⟨initT 0 args, σ⟩) : CallWp Try.prog n_spec_l20Jobs args σ K := call_fn mixed Try.func38 k_spec_l20Jobs hn hw
def c_impl_JobsLegal : LC := .seq (.ops [⟨some 2, none, .box ty_sl_impl_Task (.t 0)⟩,
      ⟨some 4, none, .mv (.k (.b false))⟩])
    (.seq (.ops [⟨some 5, none, .ld (.t 2)⟩,
      ⟨some 6, none, .call (.k (.fn n_impl_SetValid [] [])) [.t 5]⟩,
      ⟨some 7, none, .mv (.t 6)⟩,
      ⟨some 8, (some (7, true)), .mv (.t 1)⟩,
      ⟨some 9, (some (7, true)), .ld (.t 2)⟩,
      ⟨some 10, (some (7, true)), .len (.t 9)⟩,
      ⟨some 11, (some (7, true)), .mkf n_impl_JobsLegal_1 [] [.t 2]⟩,
      ⟨some 12, (some (7, true)), .call (.k (.fn n_impl_ordered [] [])) [.t 8, .t 10, .t 11]⟩,
      ⟨some 13, none, .pick (.t 7) (.t 12) (.k (.b false))⟩,
      ⟨some 14, none, .mv (.t 13)⟩,
      ⟨some 15, (some (14, true)), .mv (.t 1)⟩,
      ⟨some 16, (some (14, true)), .mkf n_impl_JobsLegal_2 [] [.t 2]⟩,
      ⟨some 17, (some (14, true)), .call (.k (.fn n_impl_spaced [] [])) [.t 15, .k (.fn n_impl_release [] []), .t 16]⟩,
      ⟨some 18, none, .pick (.t 14) (.t 17) (.k (.b false))⟩,
      ⟨some 19, none, .mv (.t 18)⟩,
      ⟨some 20, (some (19, true)), .mv (.t 1)⟩,
      ⟨some 21, (some (19, true)), .mkf n_impl_JobsLegal_3 [] [.t 2]⟩,
      ⟨some 22, (some (19, true)), .call (.k (.fn n_slices_ContainsFunc_impl_Job [] [])) [.t 20, .t 21]⟩,
      ⟨some 23, (some (19, true)), .not (.t 22)⟩,
      ⟨some 24, none, .pick (.t 19) (.t 23) (.k (.b false))⟩,
      ⟨some 4, none, .mv (.t 24)⟩])
    (.ret))
theorem k_impl_JobsLegal : chkF Try.prog Try.f40 25 c_impl_JobsLegal [.t 4] = true := by kernel_rfl
theorem call_impl_JobsLegal {args : List AV} {σ : List AB} {K : AV → List AB → Prop} (hn : args.length ≤ 25) (hw : wpC Try.prog σ.length 25 c_impl_JobsLegal (retP σ.length [.t 4] K) ⟨initT 0 args, σ⟩) : CallWp Try.prog n_impl_JobsLegal args σ K := call_fn mixed Try.func40 k_impl_JobsLegal hn hw
def l0_impl_simulate : LC := .seq (.seq (.ops [⟨some 15, none, .mv (.t 5)⟩,
      ⟨some 16, none, .nilc (.t 15)⟩,
      ⟨some 17, none, .fa 2 (.t 16)⟩,
      ⟨some 18, none, .ld (.t 17)⟩,
      ⟨some 19, none, .bin .lss (.t 18) (.k (.i .i64 120))⟩])
    (.cond (.t 19) (.skip)
    (.exit 0)))
    (.seq (.block 1 (.seq (.ops [⟨some 27, none, .mv (.t 1)⟩,
      ⟨some 28, none, .mv (.t 5)⟩,
      ⟨some 29, none, .call (.t 27) [.t 28]⟩,
      ⟨some 7, none, .mv (.t 29)⟩])
    (.seq (.draw 7 [⟨some 30, none, .fa 0 (.t 6)⟩,
      ⟨some 31, none, .ld (.t 30)⟩,
      ⟨some 32, none, .mv (.t 5)⟩,
      ⟨some 33, none, .nilc (.t 32)⟩,
      ⟨some 34, none, .fa 2 (.t 33)⟩,
      ⟨some 35, none, .ld (.t 34)⟩,
      ⟨some 36, none, .mv (.t 7)⟩,
      ⟨some 37, none, .ia 1 (.t 31) (.t 35)⟩,
      ⟨none, none, .st 1 (.t 37) (.t 36)⟩])
    (.seq (.seq (.ops [⟨some 38, none, .mv (.t 7)⟩,
      ⟨some 39, none, .bin .lss (.t 38) (.k (.i .i64 0))⟩])
    (.cond (.t 39) (.exit 1)
    (.skip)))
    (.seq (.ops [⟨some 40, none, .mv (.t 5)⟩,
      ⟨some 41, none, .nilc (.t 40)⟩,
      ⟨some 42, none, .fa 1 (.t 41)⟩,
      ⟨some 43, none, .ld (.t 42)⟩,
      ⟨some 44, none, .mv (.t 7)⟩,
      ⟨some 45, none, .ia 1 (.t 43) (.t 44)⟩,
      ⟨some 46, none, .ld (.t 45)⟩,
      ⟨some 47, none, .bin .add (.t 46) (.k (.i .i64 1))⟩,
      ⟨some 48, none, .ia 1 (.t 43) (.t 44)⟩,
      ⟨none, none, .st 1 (.t 48) (.t 47)⟩])
    (.seq (.draw 13 [⟨some 49, none, .mv (.t 5)⟩,
      ⟨some 50, none, .nilc (.t 49)⟩,
      ⟨some 51, none, .fa 1 (.t 50)⟩,
      ⟨some 52, none, .ld (.t 51)⟩,
      ⟨some 53, none, .mv (.t 7)⟩,
      ⟨some 54, none, .ia 1 (.t 52) (.t 53)⟩,
      ⟨some 55, none, .ld (.t 54)⟩,
      ⟨some 56, none, .mv (.t 0)⟩,
      ⟨some 57, none, .mv (.t 7)⟩,
      ⟨some 58, none, .ia 4 (.t 56) (.t 57)⟩,
      ⟨some 59, none, .fa 3 (.t 58)⟩,
      ⟨some 60, none, .ld (.t 59)⟩,
      ⟨some 61, none, .bin .eql (.t 55) (.t 60)⟩])
    (.cond (.t 61) (.draw 8 [⟨some 62, none, .fa 1 (.t 6)⟩,
      ⟨some 63, none, .ld (.t 62)⟩,
      ⟨some 64, none, .mv (.t 7)⟩,
      ⟨some 65, none, .mv (.t 5)⟩,
      ⟨some 66, none, .nilc (.t 65)⟩,
      ⟨some 67, none, .fa 2 (.t 66)⟩,
      ⟨some 68, none, .ld (.t 67)⟩,
      ⟨some 69, none, .bin .add (.t 68) (.k (.i .i64 1))⟩,
      ⟨some 70, none, .ia 1 (.t 63) (.t 64)⟩,
      ⟨none, none, .st 1 (.t 70) (.t 69)⟩])
    (.skip))))))))
    (.ops [⟨some 20, none, .mv (.t 5)⟩,
      ⟨some 21, none, .nilc (.t 20)⟩,
      ⟨some 22, none, .fa 2 (.t 21)⟩,
      ⟨some 23, none, .ld (.t 22)⟩,
      ⟨some 24, none, .bin .add (.t 23) (.k (.i .i64 1))⟩,
      ⟨some 25, none, .nilc (.t 20)⟩,
      ⟨some 26, none, .fa 2 (.t 25)⟩,
      ⟨none, none, .st 1 (.t 26) (.t 24)⟩]))
def c_impl_simulate : LC := .seq (.ops [⟨some 4, none, .alloc ty_impl_Schedule [.sn, .sn]⟩])
    (.seq (.ops [⟨some 8, none, .mv (.t 0)⟩,
      ⟨some 9, none, .call (.k (.fn n_impl_newMachine [] [])) [.t 8]⟩,
      ⟨some 5, none, .mv (.t 9)⟩])
    (.seq (.ops [⟨some 10, none, .call (.k (.fn n_impl_none [] [])) [.k (.i .i64 120)]⟩,
      ⟨some 11, none, .mv (.t 0)⟩,
      ⟨some 12, none, .len (.t 11)⟩,
      ⟨some 13, none, .call (.k (.fn n_impl_none [] [])) [.t 12]⟩,
      ⟨some 14, none, .build [.sn, .sn] [(0, 1, .t 10), (1, 1, .t 13)]⟩,
      ⟨some 6, none, .alloc ty_impl_Schedule [.sn, .sn]⟩,
      ⟨none, none, .st 2 (.t 6) (.t 14)⟩])
    (.seq (.block 0 (.loop l0_impl_simulate))
    (.seq (.ops [⟨some 71, none, .ldn 2 (.t 6)⟩,
      ⟨none, none, .st 2 (.t 4) (.t 71)⟩])
    (.ret)))))
theorem k_impl_simulate : chkF Try.prog Try.f42 72 c_impl_simulate [.c 4 (some 2)] = true := by kernel_rfl
theorem callC_impl_simulate {args : List AV} {σ : List AB} {K : AV → List AB → Prop} (hn : args.length ≤ 72) (hw : Closed σ → args.all (below1 σ.length) = true → wpC Try.prog σ.length 72 c_impl_simulate (retP σ.length [.c 4 (some 2)] K) ⟨initT 0 args, σ⟩) : CallWp Try.prog n_impl_simulate args σ K := call_fnC mixed Try.func42 k_impl_simulate hn hw
def c_impl_edf : LC := .seq (.ops [⟨some 2, none, .mv (.k (.i .i64 0))⟩])
    (.seq (.ops [⟨some 3, none, .mv (.t 0)⟩,
      ⟨some 4, none, .mv (.t 0)⟩,
      ⟨some 5, none, .mkf n_impl_machine_deadline [.t 4] []⟩,
      ⟨some 6, none, .mv (.t 0)⟩,
      ⟨some 7, none, .mkf n_impl_machine_any [.t 6] []⟩,
      ⟨some 8, none, .call (.k (.fn n_impl_machine_best [] [])) [.t 3, .t 5, .t 7]⟩,
      ⟨some 2, none, .mv (.t 8)⟩])
    (.ret))
theorem k_impl_edf : chkF Try.prog Try.f44 9 c_impl_edf [.t 2] = true := by kernel_rfl
theorem call_impl_edf {args : List AV} {σ : List AB} {K : AV → List AB → Prop} (hn : args.length ≤ 9) (hw : wpC Try.prog σ.length 9 c_impl_edf (retP σ.length [.t 2] K) ⟨initT 0 args, σ⟩) : CallWp Try.prog n_impl_edf args σ K := call_fn mixed Try.func44 k_impl_edf hn hw
def c_impl_machine_ready : LC := .seq (.ops [⟨some 4, none, .mv (.k (.b false))⟩])
    (.seq (.draw 31 [⟨some 5, none, .mv (.t 0)⟩,
      ⟨some 6, none, .nilc (.t 5)⟩,
      ⟨some 7, none, .fa 0 (.t 6)⟩,
      ⟨some 8, none, .ld (.t 7)⟩,
      ⟨some 9, none, .mv (.t 1)⟩,
      ⟨some 10, none, .ia 4 (.t 8) (.t 9)⟩,
      ⟨some 11, none, .fa 1 (.t 10)⟩,
      ⟨some 12, none, .ld (.t 11)⟩,
      ⟨some 13, none, .mv (.t 0)⟩,
      ⟨some 14, none, .nilc (.t 13)⟩,
      ⟨some 15, none, .fa 2 (.t 14)⟩,
      ⟨some 16, none, .ld (.t 15)⟩,
      ⟨some 17, none, .bin .leq (.t 12) (.t 16)⟩,
      ⟨some 18, none, .mv (.t 17)⟩,
      ⟨some 19, (some (18, true)), .mv (.t 0)⟩,
      ⟨some 20, (some (18, true)), .nilc (.t 19)⟩,
      ⟨some 21, (some (18, true)), .fa 1 (.t 20)⟩,
      ⟨some 22, (some (18, true)), .ld (.t 21)⟩,
      ⟨some 23, (some (18, true)), .mv (.t 1)⟩,
      ⟨some 24, (some (18, true)), .ia 1 (.t 22) (.t 23)⟩,
      ⟨some 25, (some (18, true)), .ld (.t 24)⟩,
      ⟨some 26, (some (18, true)), .mv (.t 0)⟩,
      ⟨some 27, (some (18, true)), .nilc (.t 26)⟩,
      ⟨some 28, (some (18, true)), .fa 0 (.t 27)⟩,
      ⟨some 29, (some (18, true)), .ld (.t 28)⟩,
      ⟨some 30, (some (18, true)), .mv (.t 1)⟩,
      ⟨some 31, (some (18, true)), .ia 4 (.t 29) (.t 30)⟩,
      ⟨some 32, (some (18, true)), .fa 3 (.t 31)⟩,
      ⟨some 33, (some (18, true)), .ld (.t 32)⟩,
      ⟨some 34, (some (18, true)), .bin .lss (.t 25) (.t 33)⟩,
      ⟨some 35, none, .pick (.t 18) (.t 34) (.k (.b false))⟩,
      ⟨some 4, none, .mv (.t 35)⟩])
    (.ret))
theorem k_impl_machine_ready : chkF Try.prog Try.f45 36 c_impl_machine_ready [.t 4] = true := by kernel_rfl
theorem call_impl_machine_ready {args : List AV} {σ : List AB} {K : AV → List AB → Prop} (hn : args.length ≤ 36) (hw : wpC Try.prog σ.length 36 c_impl_machine_ready (retP σ.length [.t 4] K) ⟨initT 0 args, σ⟩) : CallWp Try.prog n_impl_machine_ready args σ K := call_fn mixed Try.func45 k_impl_machine_ready hn hw
def l0_impl_machine_best : LC := .seq (.ops [⟨some 15, none, .bin .lss (.t 14) (.t 13)⟩])
    (.seq (.cond (.t 15) (.skip)
    (.exit 0))
    (.seq (.block 1 (.seq (.ops [⟨some 16, none, .mv (.t 14)⟩,
      ⟨some 8, none, .mv (.t 16)⟩])
    (.seq (.ops [⟨some 17, none, .mv (.t 0)⟩,
      ⟨some 18, none, .mv (.t 8)⟩,
      ⟨some 19, none, .call (.k (.fn n_impl_machine_ready [] [])) [.t 17, .t 18]⟩,
      ⟨some 20, none, .mv (.t 19)⟩,
      ⟨some 21, (some (20, true)), .mv (.t 2)⟩,
      ⟨some 22, (some (20, true)), .mv (.t 8)⟩,
      ⟨some 23, (some (20, true)), .call (.t 21) [.t 22]⟩,
      ⟨some 24, none, .pick (.t 20) (.t 23) (.k (.b false))⟩,
      ⟨some 25, none, .mv (.t 24)⟩,
      ⟨some 26, (some (25, true)), .mv (.t 7)⟩,
      ⟨some 27, (some (25, true)), .bin .lss (.t 26) (.k (.i .i64 0))⟩,
      ⟨some 28, (some (25, true)), .mv (.t 27)⟩,
      ⟨some 29, (some (28, false)), .mv (.t 1)⟩,
      ⟨some 30, (some (28, false)), .mv (.t 8)⟩,
      ⟨some 31, (some (28, false)), .call (.t 29) [.t 30]⟩,
      ⟨some 32, (some (28, false)), .mv (.t 1)⟩,
      ⟨some 33, (some (28, false)), .mv (.t 7)⟩,
      ⟨some 34, (some (28, false)), .call (.t 32) [.t 33]⟩,
      ⟨some 35, (some (28, false)), .bin .lss (.t 31) (.t 34)⟩,
      ⟨some 36, (some (25, true)), .pick (.t 28) (.k (.b true)) (.t 35)⟩,
      ⟨some 37, none, .pick (.t 25) (.t 36) (.k (.b false))⟩])
    (.cond (.t 37) (.ops [⟨some 38, none, .mv (.t 8)⟩,
      ⟨some 7, none, .mv (.t 38)⟩])
    (.skip)))))
    (.ops [⟨some 39, none, .bin .add (.t 14) (.k (.i .i64 1))⟩,
      ⟨some 14, none, .mv (.t 39)⟩])))
def c_impl_machine_best : LC := .seq (.ops [⟨some 6, none, .mv (.k (.i .i64 0))⟩])
    (.seq (.ops [⟨some 7, none, .mv (.k (.i .i64 (-1)))⟩])
    (.seq (.seq (.ops [⟨some 9, none, .mv (.t 0)⟩,
      ⟨some 10, none, .nilc (.t 9)⟩,
      ⟨some 11, none, .fa 0 (.t 10)⟩,
      ⟨some 12, none, .ld (.t 11)⟩,
      ⟨some 13, none, .len (.t 12)⟩,
      ⟨some 14, none, .mv (.k (.i .i64 0))⟩])
    (.block 0 (.loop l0_impl_machine_best)))
    (.seq (.ops [⟨some 40, none, .mv (.t 7)⟩,
      ⟨some 6, none, .mv (.t 40)⟩])
    (.ret))))
theorem k_impl_machine_best : chkF Try.prog Try.f46 41 c_impl_machine_best [.t 6] = true := by kernel_rfl
theorem call_impl_machine_best {args : List AV} {σ : List AB} {K : AV → List AB → Prop} (hn : args.length ≤ 41) (hw : wpC Try.prog σ.length 41 c_impl_machine_best (retP σ.length [.t 6] K) ⟨initT 0 args, σ⟩) : CallWp Try.prog n_impl_machine_best args σ K := call_fn mixed Try.func46 k_impl_machine_best hn hw
def c_impl_machine_deadline : LC := .seq (.ops [⟨some 4, none, .mv (.k (.i .i64 0))⟩])
    (.seq (.ops [⟨some 5, none, .mv (.t 0)⟩,
      ⟨some 6, none, .nilc (.t 5)⟩,
      ⟨some 7, none, .fa 0 (.t 6)⟩,
      ⟨some 8, none, .ld (.t 7)⟩,
      ⟨some 9, none, .mv (.t 1)⟩,
      ⟨some 10, none, .ia 4 (.t 8) (.t 9)⟩,
      ⟨some 11, none, .fa 2 (.t 10)⟩,
      ⟨some 12, none, .ld (.t 11)⟩,
      ⟨some 4, none, .mv (.t 12)⟩])
    (.ret))
theorem k_impl_machine_deadline : chkF Try.prog Try.f47 13 c_impl_machine_deadline [.t 4] = true := by kernel_rfl
theorem call_impl_machine_deadline {args : List AV} {σ : List AB} {K : AV → List AB → Prop} (hn : args.length ≤ 13) (hw : wpC Try.prog σ.length 13 c_impl_machine_deadline (retP σ.length [.t 4] K) ⟨initT 0 args, σ⟩) : CallWp Try.prog n_impl_machine_deadline args σ K := call_fn mixed Try.func47 k_impl_machine_deadline hn hw
def l0_laws_sameInts : LC := .seq (.seq (.ops [⟨some 11, none, .mv (.t 5)⟩,
      ⟨some 12, none, .mv (.t 0)⟩,
      ⟨some 13, none, .len (.t 12)⟩,
      ⟨some 14, none, .bin .lss (.t 11) (.t 13)⟩])
    (.cond (.t 14) (.skip)
    (.exit 0)))
    (.seq (.block 1 (.seq (.draw 9 [⟨some 17, none, .mv (.t 0)⟩,
      ⟨some 18, none, .mv (.t 5)⟩,
      ⟨some 19, none, .ia 1 (.t 17) (.t 18)⟩,
      ⟨some 20, none, .ld (.t 19)⟩,
      ⟨some 21, none, .mv (.t 1)⟩,
      ⟨some 22, none, .mv (.t 5)⟩,
      ⟨some 23, none, .ia 1 (.t 21) (.t 22)⟩,
      ⟨some 24, none, .ld (.t 23)⟩,
      ⟨some 25, none, .bin .neq (.t 20) (.t 24)⟩])
    (.cond (.t 25) (.seq (.ops [⟨some 4, none, .mv (.k (.b false))⟩])
    (.ret))
    (.skip))))
    (.ops [⟨some 15, none, .mv (.t 5)⟩,
      ⟨some 16, none, .bin .add (.t 15) (.k (.i .i64 1))⟩,
      ⟨some 5, none, .mv (.t 16)⟩]))
def c_laws_sameInts : LC := .seq (.ops [⟨some 4, none, .mv (.k (.b false))⟩])
    (.seq (.seq (.ops [⟨some 6, none, .mv (.t 0)⟩,
      ⟨some 7, none, .len (.t 6)⟩,
      ⟨some 8, none, .mv (.t 1)⟩,
      ⟨some 9, none, .len (.t 8)⟩,
      ⟨some 10, none, .bin .neq (.t 7) (.t 9)⟩])
    (.cond (.t 10) (.seq (.ops [⟨some 4, none, .mv (.k (.b false))⟩])
    (.ret))
    (.skip)))
    (.seq (.seq (.ops [⟨some 5, none, .mv (.k (.i .i64 0))⟩])
    (.block 0 (.loop l0_laws_sameInts)))
    (.seq (.ops [⟨some 4, none, .mv (.k (.b true))⟩])
    (.ret))))
theorem k_laws_sameInts : chkF Try.prog Try.f49 26 c_laws_sameInts [.t 4] = true := by kernel_rfl
theorem call_laws_sameInts {args : List AV} {σ : List AB} {K : AV → List AB → Prop} (hn : args.length ≤ 26) (hw : wpC Try.prog σ.length 26 c_laws_sameInts (retP σ.length [.t 4] K) ⟨initT 0 args, σ⟩) : CallWp Try.prog n_laws_sameInts args σ K := call_fn mixed Try.func49 k_laws_sameInts hn hw
end Go.Proofs.Ytnlciginmeebhaa
