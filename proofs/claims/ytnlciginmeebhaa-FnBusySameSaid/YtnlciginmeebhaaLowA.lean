/- Lowered code of Go functions, printed by a program of this session (lower.py), and that it is the loaded code: checked by the kernel. -/
import Derived.Test.YtnlciginmeebhaaProg
import Derived.Test.YtnlciginmeebhaaAbsY
import Derived.KernelRfl
namespace Go.Proofs.Ytnlciginmeebhaa
open Go.Abs
set_option maxRecDepth 100000

theorem mixed : Try.prog.follows .mixedOrders = true := by kernel_rfl
abbrev n_laws_FnBusySame : Nat := 3
abbrev n_laws_FnServerShare : Nat := 4
abbrev n_laws_FnServerIdle : Nat := 5
abbrev n_laws_FnServerOrder : Nat := 6
abbrev n_laws_FnServerIsolation : Nat := 7
abbrev n_laws_FnResourcesStarted : Nat := 8
abbrev n_laws_FnResourcesNone : Nat := 9
abbrev n_laws_FnResourcesMutex : Nat := 10
abbrev n_laws_FnResourcesDone : Nat := 11
abbrev n_laws_FnResourcesBlocked : Nat := 12
abbrev n_laws_FnResourcesSafe : Nat := 13
abbrev n_spec_DrawRunResources : Nat := 14
abbrev n_impl_RunResources : Nat := 15
abbrev n_laws_sameSchedule : Nat := 16
abbrev n_spec_RunResources : Nat := 17
abbrev n_laws_alive : Nat := 18
abbrev n_impl_RunEdf : Nat := 19
abbrev n_impl_RunFixed : Nat := 20
abbrev n_impl_DeadlineMonotonic : Nat := 21
abbrev n_spec_DrawRunServers : Nat := 22
abbrev n_impl_RunServers : Nat := 23
abbrev n_spec_ServersValid : Nat := 24
abbrev n_spec_ArrivalsLegal : Nat := 25
abbrev n_laws_sameRun : Nat := 26
abbrev n_spec_RunServers : Nat := 27
abbrev n_laws_ticks : Nat := 28
abbrev n_impl_ServersFeasible : Nat := 29
abbrev n_impl_Missed : Nat := 30
abbrev n_laws_contains : Nat := 31
abbrev n_impl_ResourcesFeasible : Nat := 32
abbrev n_spec_JobsLegal : Nat := 33
abbrev n_spec_l20Open : Nat := 34
abbrev n_spec_l20Set : Nat := 35
abbrev n_spec_l20Sections : Nat := 36
abbrev n_spec_SetValid : Nat := 37
abbrev n_spec_l20Jobs : Nat := 38
abbrev n_impl_SectionsValid : Nat := 39
abbrev n_impl_JobsLegal : Nat := 40
abbrev n_impl_ceilings : Nat := 41
abbrev n_impl_simulate : Nat := 42
abbrev n_impl_RunResources_1 : Nat := 43
abbrev n_impl_edf : Nat := 44
abbrev n_impl_machine_ready : Nat := 45
abbrev n_impl_machine_best : Nat := 46
abbrev n_impl_machine_deadline : Nat := 47
abbrev n_impl_RunResources_1_1 : Nat := 48
abbrev n_laws_sameInts : Nat := 49
abbrev n_spec_SectionsValid : Nat := 50
abbrev n_spec_l6Best : Nat := 51
abbrev n_spec_l6System : Nat := 52
abbrev n_impl_TaskValid : Nat := 53
abbrev n_impl_OrderValid : Nat := 54
abbrev n_impl_fixed : Nat := 55
abbrev n_impl_SetValid : Nat := 56
abbrev n_impl_indices : Nat := 57
abbrev n_slices_SortStableFunc_int : Nat := 58
abbrev n_impl_DeadlineMonotonic_1 : Nat := 59
abbrev n_spec_l20Servers : Nat := 60
abbrev n_spec_l20Arrivals : Nat := 61
abbrev n_spec_l20Rd_odd : Nat := 62
abbrev n_impl_ServersValid : Nat := 63
abbrev n_slices_ContainsFunc_impl_Arrival_impl_Arrival : Nat := 64
abbrev n_impl_RunServers_1 : Nat := 65
abbrev n_impl_ArrivalsLegal : Nat := 66
abbrev n_impl_none : Nat := 67
abbrev n_impl_RunServers_2 : Nat := 68
abbrev n_impl_server_admit : Nat := 69
abbrev n_impl_server_pending : Nat := 70
abbrev n_impl_server_serve : Nat := 71
abbrev n_spec_l1In : Nat := 72
abbrev n_spec_l5Run : Nat := 73
abbrev n_impl_hyper : Nat := 74
abbrev n_impl_demand : Nat := 75
abbrev n_impl_missed : Nat := 76
abbrev n_impl_blocking : Nat := 77
abbrev n_spec_l20Rd_pick : Nat := 78
abbrev n_spec_l20Task : Nat := 79
abbrev n_spec_TaskValid : Nat := 80
abbrev n_impl_in : Nat := 81
abbrev n_impl_ordered : Nat := 82
abbrev n_impl_JobsLegal_1 : Nat := 83
abbrev n_impl_spaced : Nat := 84
abbrev n_impl_release : Nat := 85
abbrev n_impl_JobsLegal_2 : Nat := 86
abbrev n_slices_ContainsFunc_impl_Job : Nat := 87
abbrev n_impl_JobsLegal_3 : Nat := 88
abbrev n_impl_newMachine : Nat := 89
abbrev n_impl_machine_any : Nat := 90
abbrev n_spec_l6Held : Nat := 91
abbrev n_spec_l6Ceiling : Nat := 92
abbrev n_slices_Index_int : Nat := 93
abbrev n_impl_fixed_1 : Nat := 94
abbrev n_impl_fixed_1_1 : Nat := 95
abbrev n_slices_ContainsFunc_impl_Task : Nat := 96
abbrev n_impl_SetValid_1 : Nat := 97
abbrev n_slices_stableCmpFunc_int : Nat := 98
abbrev n_slices_ContainsFunc_impl_Server : Nat := 99
abbrev n_impl_ServersValid_1 : Nat := 100
abbrev n_slices_IndexFunc_impl_Arrival_impl_Arrival : Nat := 101
abbrev n_slices_Repeat_int : Nat := 102
abbrev n_spec_l3Deadlines : Nat := 103
abbrev n_spec_l5Arrive : Nat := 104
abbrev n_spec_l3Best : Nat := 105
abbrev n_spec_l5Pick : Nat := 106
abbrev n_spec_l5Serve : Nat := 107
abbrev n_impl_lcm : Nat := 108
abbrev n_slices_Clip_int : Nat := 109
abbrev n_slices_IndexFunc_impl_Job : Nat := 110
abbrev n_slices_IndexFunc_impl_Task : Nat := 111
abbrev n_slices_insertionSortCmpFunc_int : Nat := 112
abbrev n_slices_symMergeCmpFunc_int : Nat := 113
abbrev n_slices_IndexFunc_impl_Server : Nat := 114
abbrev n_math_bits_Mul : Nat := 115
abbrev n_impl_gcd : Nat := 116
abbrev n_slices_rotateCmpFunc_int : Nat := 117
abbrev n_math_bits_Mul32 : Nat := 118
abbrev n_math_bits_Mul64 : Nat := 119
abbrev n_slices_swapRangeCmpFunc_int : Nat := 120
abbrev ty_int : Nat := 3
abbrev ty_bool : Nat := 4
abbrev ty_uint8 : Nat := 5
abbrev ty_string : Nat := 9
abbrev ty_ptr_runtime_TypeAssertionError : Nat := 15
abbrev ty_ptr_runtime_PanicNilError : Nat := 16
abbrev ty_ptr_abi_Type : Nat := 17
abbrev ty_sl_uint8 : Nat := 22
abbrev ty_sl_impl_Task : Nat := 23
abbrev ty_sl_impl_Section : Nat := 24
abbrev ty_sl_impl_Job : Nat := 25
abbrev ty_sl_int : Nat := 28
abbrev ty_impl_Schedule : Nat := 30
abbrev ty_sl_impl_Server : Nat := 38
abbrev ty_sl_sl_impl_Arrival : Nat := 39
abbrev ty_sl_sl_int : Nat := 42
abbrev ty_impl_ServerRun : Nat := 44
abbrev ty_sl_impl_Arrival : Nat := 48
abbrev ty_impl_Arrival : Nat := 50
abbrev ty_impl_Job : Nat := 56
abbrev ty_impl_Section : Nat := 58
abbrev ty_ptr_spec_l20Rd : Nat := 62
abbrev ty_ptr_impl_machine : Nat := 70
abbrev ty_impl_machine : Nat := 73
abbrev ty_impl_Task : Nat := 76
abbrev ty_sl_ptr_impl_server : Nat := 91
abbrev ty_impl_Server : Nat := 93
abbrev ty_ptr_impl_server : Nat := 94
abbrev ty_impl_server : Nat := 96
abbrev ty_spec_l20Rd : Nat := 105
abbrev ty_sl_spec_l5State : Nat := 121
abbrev ty_spec_l5State : Nat := 123
abbrev ty_ptr_uint8 : Nat := 155

-- loop.example/deadlinescheduler/laws.FnBusySame
-- region 5: a plan with 1 orders
-- region 14 draws, 28 of 28 first
-- l0_laws_FnBusySame: live at the head: 6 7 8 9 61 62 63 64 65 66 67 68 69 70 71 72 73
def l0_laws_FnBusySame : LC := .seq (.seq (.ops [⟨some 43, none, .mv (.t 9)⟩,
      ⟨some 44, none, .bin .lss (.t 43) (.k (.i .i64 120))⟩])
    (.cond (.t 44) (.skip)
    (.exit 0)))
    (.seq (.block 1 (.seq (.draw 28 [⟨some 47, none, .fa 0 (.t 6)⟩,
      ⟨some 48, none, .ld (.t 47)⟩,
      ⟨some 49, none, .mv (.t 9)⟩,
      ⟨some 50, none, .ia 1 (.t 48) (.t 49)⟩,
      ⟨some 51, none, .ld (.t 50)⟩,
      ⟨some 52, none, .bin .lss (.t 51) (.k (.i .i64 0))⟩,
      ⟨some 53, none, .fa 0 (.t 7)⟩,
      ⟨some 54, none, .ld (.t 53)⟩,
      ⟨some 55, none, .mv (.t 9)⟩,
      ⟨some 56, none, .ia 1 (.t 54) (.t 55)⟩,
      ⟨some 57, none, .ld (.t 56)⟩,
      ⟨some 58, none, .bin .lss (.t 57) (.k (.i .i64 0))⟩,
      ⟨some 59, none, .beq true (.t 52) (.t 58)⟩,
      ⟨some 60, none, .mv (.t 59)⟩,
      ⟨some 61, (some (60, false)), .fa 0 (.t 8)⟩,
      ⟨some 62, (some (60, false)), .ld (.t 61)⟩,
      ⟨some 63, (some (60, false)), .mv (.t 9)⟩,
      ⟨some 64, (some (60, false)), .ia 1 (.t 62) (.t 63)⟩,
      ⟨some 65, (some (60, false)), .ld (.t 64)⟩,
      ⟨some 66, (some (60, false)), .bin .lss (.t 65) (.k (.i .i64 0))⟩,
      ⟨some 67, (some (60, false)), .fa 0 (.t 7)⟩,
      ⟨some 68, (some (60, false)), .ld (.t 67)⟩,
      ⟨some 69, (some (60, false)), .mv (.t 9)⟩,
      ⟨some 70, (some (60, false)), .ia 1 (.t 68) (.t 69)⟩,
      ⟨some 71, (some (60, false)), .ld (.t 70)⟩,
      ⟨some 72, (some (60, false)), .bin .lss (.t 71) (.k (.i .i64 0))⟩,
      ⟨some 73, (some (60, false)), .beq true (.t 66) (.t 72)⟩,
      ⟨some 74, none, .pick (.t 60) (.k (.b true)) (.t 73)⟩])
    (.cond (.t 74) (.seq (.ops [⟨some 2, none, .mv (.k (.b false))⟩])
    (.ret))
    (.skip))))
    (.ops [⟨some 45, none, .mv (.t 9)⟩,
      ⟨some 46, none, .bin .add (.t 45) (.k (.i .i64 1))⟩,
      ⟨some 9, none, .mv (.t 46)⟩]))
def c_laws_FnBusySame : LC := .seq (.ops [⟨some 2, none, .mv (.k (.b false))⟩])
    (.seq (.seq (.ops [⟨some 10, none, .mv (.t 0)⟩,
      ⟨some 11, none, .len (.t 10)⟩,
      ⟨some 12, none, .bin .gtr (.t 11) (.k (.i .i64 1048576))⟩])
    (.cond (.t 12) (.seq (.ops [⟨some 2, none, .mv (.k (.b true))⟩])
    (.ret))
    (.skip)))
    (.seq (.ops [⟨some 14, none, .mv (.t 0)⟩,
      ⟨some 15, none, .call (.k (.fn n_spec_DrawRunResources [] [])) [.t 14]⟩,
      ⟨some 13, none, .mv (.t 15)⟩,
      ⟨some 16, none, .ext 0 (.t 13)⟩,
      ⟨some 17, none, .ext 1 (.t 13)⟩,
      ⟨some 18, none, .ext 2 (.t 13)⟩,
      ⟨some 3, none, .mv (.t 16)⟩,
      ⟨some 4, none, .mv (.t 17)⟩,
      ⟨some 5, none, .mv (.t 18)⟩])
    (.seq (.ops [⟨some 19, none, .mv (.t 3)⟩,
      ⟨some 20, none, .mv (.t 4)⟩,
      ⟨some 21, none, .mv (.t 5)⟩,
      ⟨some 22, none, .call (.k (.fn n_impl_RunResources [] [])) [.t 19, .t 20, .t 21]⟩,
      ⟨some 6, none, .alloc ty_impl_Schedule [.sn, .sn]⟩,
      ⟨none, none, .st 2 (.t 6) (.t 22)⟩])
    (.seq (.seq (.plan [0, 1, 2, 3] [⟨some 23, none, .ldn 2 (.t 6)⟩,
      ⟨some 24, none, .mv (.t 3)⟩,
      ⟨some 25, none, .mv (.t 4)⟩,
      ⟨some 26, none, .mv (.t 5)⟩]
      (.one 4 ⟨some 27, none, .call (.k (.fn n_spec_RunResources [] [])) [.t 24, .t 25, .t 26]⟩ [(23, some 2, 6)] []
        []
      (.one 5 ⟨some 28, none, .call (.k (.fn n_laws_sameSchedule [] [])) [.t 23, .t 27]⟩ [] [6]
        [⟨some 29, none, .not (.t 28)⟩]
      .fin)))
    (.cond (.t 29) (.seq (.ops [⟨some 2, none, .mv (.k (.b false))⟩])
    (.ret))
    (.skip)))
    (.seq (.seq (.ops [⟨some 30, none, .fa 0 (.t 6)⟩,
      ⟨some 31, none, .ld (.t 30)⟩,
      ⟨some 32, none, .len (.t 31)⟩,
      ⟨some 33, none, .bin .neq (.t 32) (.k (.i .i64 120))⟩])
    (.cond (.t 33) (.seq (.ops [⟨some 34, none, .call (.k (.fn n_laws_alive [] [])) []⟩,
      ⟨some 2, none, .mv (.t 34)⟩])
    (.ret))
    (.skip)))
    (.seq (.ops [⟨some 35, none, .mv (.t 3)⟩,
      ⟨some 36, none, .mv (.t 5)⟩,
      ⟨some 37, none, .call (.k (.fn n_impl_RunEdf [] [])) [.t 35, .t 36]⟩,
      ⟨some 7, none, .alloc ty_impl_Schedule [.sn, .sn]⟩,
      ⟨none, none, .st 2 (.t 7) (.t 37)⟩])
    (.seq (.ops [⟨some 38, none, .mv (.t 3)⟩,
      ⟨some 39, none, .mv (.t 3)⟩,
      ⟨some 40, none, .call (.k (.fn n_impl_DeadlineMonotonic [] [])) [.t 39]⟩,
      ⟨some 41, none, .mv (.t 5)⟩,
      ⟨some 42, none, .call (.k (.fn n_impl_RunFixed [] [])) [.t 38, .t 40, .t 41]⟩,
      ⟨some 8, none, .alloc ty_impl_Schedule [.sn, .sn]⟩,
      ⟨none, none, .st 2 (.t 8) (.t 42)⟩])
    (.seq (.seq (.ops [⟨some 9, none, .mv (.k (.i .i64 0))⟩])
    (.block 0 (.loop l0_laws_FnBusySame)))
    (.seq (.ops [⟨some 2, none, .mv (.k (.b true))⟩])
    (.ret))))))))))
theorem k_laws_FnBusySame : chkF Try.prog Try.f3 75 c_laws_FnBusySame [.t 2] = true := by kernel_rfl
theorem call_laws_FnBusySame {args : List AV} {σ : List AB} {K : AV → List AB → Prop} (hn : args.length ≤ 75) (hw : wpC Try.prog σ.length 75 c_laws_FnBusySame (retP σ.length [.t 2] K) ⟨initT 0 args, σ⟩) : CallWp Try.prog n_laws_FnBusySame args σ K := call_fn mixed Try.func3 k_laws_FnBusySame hn hw

-- loop.example/deadlinescheduler/laws.FnServerShare
-- region 6: a plan with 8 orders
-- region 13 draws, 17 of 18 first
-- a cut
-- a cut
-- l0_laws_FnServerShare: live at the head: 6 7 8 9
def l0_laws_FnServerShare : LC := .seq (.seq (.ops [⟨some 55, none, .mv (.t 9)⟩,
      ⟨some 56, none, .mv (.t 6)⟩,
      ⟨some 57, none, .ia 1 (.t 56) (.k (.i .i64 0))⟩,
      ⟨some 58, none, .ld (.t 57)⟩,
      ⟨some 59, none, .len (.t 58)⟩,
      ⟨some 60, none, .bin .lss (.t 55) (.t 59)⟩])
    (.cond (.t 60) (.skip)
    (.exit 0)))
    (.seq (.block 1 (.seq (.draw 17 [⟨some 63, none, .mv (.t 8)⟩,
      ⟨some 64, none, .mv (.t 6)⟩,
      ⟨some 65, none, .ia 1 (.t 64) (.k (.i .i64 0))⟩,
      ⟨some 66, none, .ld (.t 65)⟩,
      ⟨some 67, none, .mv (.t 9)⟩,
      ⟨some 68, none, .ia 2 (.t 66) (.t 67)⟩,
      ⟨some 69, none, .fa 0 (.t 68)⟩,
      ⟨some 70, none, .ld (.t 69)⟩,
      ⟨some 71, none, .mx (.t 63) (.t 70)⟩,
      ⟨some 72, none, .mv (.t 6)⟩,
      ⟨some 73, none, .ia 1 (.t 72) (.k (.i .i64 0))⟩,
      ⟨some 74, none, .ld (.t 73)⟩,
      ⟨some 75, none, .mv (.t 9)⟩,
      ⟨some 76, none, .ia 2 (.t 74) (.t 75)⟩,
      ⟨some 77, none, .fa 1 (.t 76)⟩,
      ⟨some 78, none, .ld (.t 77)⟩,
      ⟨some 79, none, .bin .add (.t 71) (.t 78)⟩,
      ⟨some 8, none, .mv (.t 79)⟩])
    (.seq (.ops [⟨some 80, none, .mv (.t 8)⟩,
      ⟨some 10, none, .mv (.t 80)⟩])
    (.join (.seq (.ops [⟨some 81, none, .mv (.t 8)⟩,
      ⟨some 82, none, .bin .gtr (.t 81) (.k (.i .i64 120))⟩])
    (.cond (.t 82) (.ops [⟨some 10, none, .mv (.k (.i .i64 (-1)))⟩])
    (.skip)))
    (.seq (.ops [⟨some 83, none, .fa 3 (.t 7)⟩,
      ⟨some 84, none, .ld (.t 83)⟩,
      ⟨some 85, none, .ia 1 (.t 84) (.k (.i .i64 0))⟩,
      ⟨some 86, none, .ld (.t 85)⟩,
      ⟨some 87, none, .mv (.t 9)⟩,
      ⟨some 88, none, .ia 1 (.t 86) (.t 87)⟩,
      ⟨some 89, none, .ld (.t 88)⟩,
      ⟨some 90, none, .mv (.t 10)⟩,
      ⟨some 91, none, .bin .neq (.t 89) (.t 90)⟩])
    (.cond (.t 91) (.seq (.ops [⟨some 2, none, .mv (.k (.b false))⟩])
    (.ret))
    (.skip)))))))
    (.ops [⟨some 61, none, .mv (.t 9)⟩,
      ⟨some 62, none, .bin .add (.t 61) (.k (.i .i64 1))⟩,
      ⟨some 9, none, .mv (.t 62)⟩]))
def c_laws_FnServerShare : LC := .seq (.ops [⟨some 2, none, .mv (.k (.b false))⟩])
    (.seq (.seq (.ops [⟨some 11, none, .mv (.t 0)⟩,
      ⟨some 12, none, .len (.t 11)⟩,
      ⟨some 13, none, .bin .gtr (.t 12) (.k (.i .i64 1048576))⟩])
    (.cond (.t 13) (.seq (.ops [⟨some 2, none, .mv (.k (.b true))⟩])
    (.ret))
    (.skip)))
    (.seq (.ops [⟨some 15, none, .mv (.t 0)⟩,
      ⟨some 16, none, .call (.k (.fn n_spec_DrawRunServers [] [])) [.t 15]⟩,
      ⟨some 14, none, .mv (.t 16)⟩,
      ⟨some 17, none, .ext 0 (.t 14)⟩,
      ⟨some 18, none, .ext 1 (.t 14)⟩,
      ⟨some 19, none, .ext 2 (.t 14)⟩,
      ⟨some 20, none, .ext 3 (.t 14)⟩,
      ⟨some 3, none, .mv (.t 17)⟩,
      ⟨some 4, none, .mv (.t 18)⟩,
      ⟨some 5, none, .mv (.t 19)⟩,
      ⟨some 6, none, .mv (.t 20)⟩])
    (.seq (.seq (.ops [⟨some 21, none, .mv (.t 5)⟩,
      ⟨some 22, none, .len (.t 21)⟩,
      ⟨some 23, none, .bin .eql (.t 22) (.k (.i .i64 0))⟩,
      ⟨some 24, none, .mv (.t 23)⟩,
      ⟨some 25, (some (24, false)), .mv (.t 6)⟩,
      ⟨some 26, (some (24, false)), .len (.t 25)⟩,
      ⟨some 27, (some (24, false)), .bin .eql (.t 26) (.k (.i .i64 0))⟩,
      ⟨some 28, none, .pick (.t 24) (.k (.b true)) (.t 27)⟩])
    (.cond (.t 28) (.seq (.ops [⟨some 29, none, .call (.k (.fn n_laws_alive [] [])) []⟩,
      ⟨some 2, none, .mv (.t 29)⟩])
    (.ret))
    (.skip)))
    (.join (.plan [2, 3, 4, 5] [⟨some 32, none, .mv (.t 5)⟩,
      ⟨some 33, none, .slc 2 (.t 32) none (some (.k (.i .i64 1))) none⟩,
      ⟨some 34, none, .mv (.t 6)⟩,
      ⟨some 35, none, .slc 1 (.t 34) none (some (.k (.i .i64 1))) none⟩]
      (.alt (.one 0 ⟨some 30, none, .bsl ty_impl_Task [.i .i64 0, .i .i64 0, .i .i64 0] 0 []⟩ [] []
        []
      (.alt (.one 1 ⟨some 31, none, .bsl ty_impl_Job [.i .i64 0, .i .i64 0, .i .i64 0, .i .i64 0] 0 []⟩ [] []
        []
      (.alt (.one 6 ⟨some 36, none, .call (.k (.fn n_impl_RunServers [] [])) [.t 30, .t 31, .t 33, .t 35]⟩ [] []
        []
      (.one 7 ⟨some 7, none, .alloc ty_impl_ServerRun [.sn, .sn, .sn, .sn]⟩ [] []
        []
      (.one 8 ⟨none, none, .st 4 (.t 7) (.t 36)⟩ [] []
        []
      .fin))) (.one 7 ⟨some 7, none, .alloc ty_impl_ServerRun [.sn, .sn, .sn, .sn]⟩ [] []
        []
      (.one 6 ⟨some 36, none, .call (.k (.fn n_impl_RunServers [] [])) [.t 30, .t 31, .t 33, .t 35]⟩ [] []
        []
      (.one 8 ⟨none, none, .st 4 (.t 7) (.t 36)⟩ [] []
        []
      .fin))))) (.one 7 ⟨some 7, none, .alloc ty_impl_ServerRun [.sn, .sn, .sn, .sn]⟩ [] []
        []
      (.one 1 ⟨some 31, none, .bsl ty_impl_Job [.i .i64 0, .i .i64 0, .i .i64 0, .i .i64 0] 0 []⟩ [] []
        []
      (.one 6 ⟨some 36, none, .call (.k (.fn n_impl_RunServers [] [])) [.t 30, .t 31, .t 33, .t 35]⟩ [] []
        []
      (.one 8 ⟨none, none, .st 4 (.t 7) (.t 36)⟩ [] []
        []
      .fin)))))) (.alt (.one 1 ⟨some 31, none, .bsl ty_impl_Job [.i .i64 0, .i .i64 0, .i .i64 0, .i .i64 0] 0 []⟩ [] []
        []
      (.alt (.one 0 ⟨some 30, none, .bsl ty_impl_Task [.i .i64 0, .i .i64 0, .i .i64 0] 0 []⟩ [] []
        []
      (.alt (.one 6 ⟨some 36, none, .call (.k (.fn n_impl_RunServers [] [])) [.t 30, .t 31, .t 33, .t 35]⟩ [] []
        []
      (.one 7 ⟨some 7, none, .alloc ty_impl_ServerRun [.sn, .sn, .sn, .sn]⟩ [] []
        []
      (.one 8 ⟨none, none, .st 4 (.t 7) (.t 36)⟩ [] []
        []
      .fin))) (.one 7 ⟨some 7, none, .alloc ty_impl_ServerRun [.sn, .sn, .sn, .sn]⟩ [] []
        []
      (.one 6 ⟨some 36, none, .call (.k (.fn n_impl_RunServers [] [])) [.t 30, .t 31, .t 33, .t 35]⟩ [] []
        []
      (.one 8 ⟨none, none, .st 4 (.t 7) (.t 36)⟩ [] []
        []
      .fin))))) (.one 7 ⟨some 7, none, .alloc ty_impl_ServerRun [.sn, .sn, .sn, .sn]⟩ [] []
        []
      (.one 0 ⟨some 30, none, .bsl ty_impl_Task [.i .i64 0, .i .i64 0, .i .i64 0] 0 []⟩ [] []
        []
      (.one 6 ⟨some 36, none, .call (.k (.fn n_impl_RunServers [] [])) [.t 30, .t 31, .t 33, .t 35]⟩ [] []
        []
      (.one 8 ⟨none, none, .st 4 (.t 7) (.t 36)⟩ [] []
        []
      .fin)))))) (.one 7 ⟨some 7, none, .alloc ty_impl_ServerRun [.sn, .sn, .sn, .sn]⟩ [] []
        []
      (.alt (.one 0 ⟨some 30, none, .bsl ty_impl_Task [.i .i64 0, .i .i64 0, .i .i64 0] 0 []⟩ [] []
        []
      (.one 1 ⟨some 31, none, .bsl ty_impl_Job [.i .i64 0, .i .i64 0, .i .i64 0, .i .i64 0] 0 []⟩ [] []
        []
      (.one 6 ⟨some 36, none, .call (.k (.fn n_impl_RunServers [] [])) [.t 30, .t 31, .t 33, .t 35]⟩ [] []
        []
      (.one 8 ⟨none, none, .st 4 (.t 7) (.t 36)⟩ [] []
        []
      .fin)))) (.one 1 ⟨some 31, none, .bsl ty_impl_Job [.i .i64 0, .i .i64 0, .i .i64 0, .i .i64 0] 0 []⟩ [] []
        []
      (.one 0 ⟨some 30, none, .bsl ty_impl_Task [.i .i64 0, .i .i64 0, .i .i64 0] 0 []⟩ [] []
        []
      (.one 6 ⟨some 36, none, .call (.k (.fn n_impl_RunServers [] [])) [.t 30, .t 31, .t 33, .t 35]⟩ [] []
        []
      (.one 8 ⟨none, none, .st 4 (.t 7) (.t 36)⟩ [] []
        []
      .fin)))))))))
    (.seq (.seq (.ops [⟨some 37, none, .fa 2 (.t 7)⟩,
      ⟨some 38, none, .ld (.t 37)⟩,
      ⟨some 39, none, .len (.t 38)⟩,
      ⟨some 40, none, .bin .neq (.t 39) (.k (.i .i64 120))⟩])
    (.cond (.t 40) (.seq (.ops [⟨some 41, none, .mv (.t 5)⟩,
      ⟨some 42, none, .slc 2 (.t 41) none (some (.k (.i .i64 1))) none⟩,
      ⟨some 43, none, .call (.k (.fn n_spec_ServersValid [] [])) [.t 42]⟩,
      ⟨some 44, none, .not (.t 43)⟩,
      ⟨some 45, none, .mv (.t 44)⟩,
      ⟨some 46, (some (45, false)), .mv (.t 6)⟩,
      ⟨some 47, (some (45, false)), .ia 1 (.t 46) (.k (.i .i64 0))⟩,
      ⟨some 48, (some (45, false)), .ld (.t 47)⟩,
      ⟨some 49, (some (45, false)), .call (.k (.fn n_spec_ArrivalsLegal [] [])) [.t 48]⟩,
      ⟨some 50, (some (45, false)), .not (.t 49)⟩,
      ⟨some 51, none, .pick (.t 45) (.k (.b true)) (.t 50)⟩,
      ⟨some 52, none, .mv (.t 51)⟩,
      ⟨some 53, (some (52, true)), .call (.k (.fn n_laws_alive [] [])) []⟩,
      ⟨some 54, none, .pick (.t 52) (.t 53) (.k (.b false))⟩,
      ⟨some 2, none, .mv (.t 54)⟩])
    (.ret))
    (.skip)))
    (.seq (.ops [⟨some 8, none, .mv (.k (.i .i64 0))⟩])
    (.seq (.seq (.ops [⟨some 9, none, .mv (.k (.i .i64 0))⟩])
    (.block 0 (.loop l0_laws_FnServerShare)))
    (.seq (.ops [⟨some 2, none, .mv (.k (.b true))⟩])
    (.ret)))))))))
theorem k_laws_FnServerShare : chkF Try.prog Try.f4 92 c_laws_FnServerShare [.t 2] = true := by kernel_rfl
theorem call_laws_FnServerShare {args : List AV} {σ : List AB} {K : AV → List AB → Prop} (hn : args.length ≤ 92) (hw : wpC Try.prog σ.length 92 c_laws_FnServerShare (retP σ.length [.t 2] K) ⟨initT 0 args, σ⟩) : CallWp Try.prog n_laws_FnServerShare args σ K := call_fn mixed Try.func4 k_laws_FnServerShare hn hw

-- loop.example/deadlinescheduler/laws.FnServerIdle
-- region 5: a plan with 1 orders
-- region 16: a plan with 1 orders
-- l0_laws_FnServerIdle: live at the head: 3 4 5 7 8 50 51 52 53 54 55 56
def l0_laws_FnServerIdle : LC := .seq (.seq (.ops [⟨some 39, none, .mv (.t 8)⟩,
      ⟨some 40, none, .bin .lss (.t 39) (.k (.i .i64 120))⟩])
    (.cond (.t 40) (.skip)
    (.exit 0)))
    (.seq (.block 1 (.seq (.ops [⟨some 43, none, .fa 2 (.t 7)⟩,
      ⟨some 44, none, .ld (.t 43)⟩,
      ⟨some 45, none, .mv (.t 8)⟩,
      ⟨some 46, none, .ia 1 (.t 44) (.t 45)⟩,
      ⟨some 47, none, .ld (.t 46)⟩,
      ⟨some 48, none, .bin .geq (.t 47) (.k (.i .i64 0))⟩,
      ⟨some 49, none, .mv (.t 48)⟩,
      ⟨some 50, (some (49, true)), .fa 0 (.t 7)⟩,
      ⟨some 51, (some (49, true)), .fa 0 (.t 50)⟩,
      ⟨some 52, (some (49, true)), .ld (.t 51)⟩,
      ⟨some 53, (some (49, true)), .mv (.t 8)⟩,
      ⟨some 54, (some (49, true)), .ia 1 (.t 52) (.t 53)⟩,
      ⟨some 55, (some (49, true)), .ld (.t 54)⟩,
      ⟨some 56, (some (49, true)), .bin .geq (.t 55) (.k (.i .i64 0))⟩,
      ⟨some 57, none, .pick (.t 49) (.t 56) (.k (.b false))⟩])
    (.cond (.t 57) (.seq (.ops [⟨some 2, none, .mv (.k (.b false))⟩])
    (.ret))
    (.skip))))
    (.ops [⟨some 41, none, .mv (.t 8)⟩,
      ⟨some 42, none, .bin .add (.t 41) (.k (.i .i64 1))⟩,
      ⟨some 8, none, .mv (.t 42)⟩]))
def c_laws_FnServerIdle : LC := .seq (.ops [⟨some 2, none, .mv (.k (.b false))⟩])
    (.seq (.seq (.ops [⟨some 11, none, .mv (.t 0)⟩,
      ⟨some 12, none, .len (.t 11)⟩,
      ⟨some 13, none, .bin .gtr (.t 12) (.k (.i .i64 1048576))⟩])
    (.cond (.t 13) (.seq (.ops [⟨some 2, none, .mv (.k (.b true))⟩])
    (.ret))
    (.skip)))
    (.seq (.ops [⟨some 15, none, .mv (.t 0)⟩,
      ⟨some 16, none, .call (.k (.fn n_spec_DrawRunServers [] [])) [.t 15]⟩,
      ⟨some 14, none, .mv (.t 16)⟩,
      ⟨some 17, none, .ext 0 (.t 14)⟩,
      ⟨some 18, none, .ext 1 (.t 14)⟩,
      ⟨some 19, none, .ext 2 (.t 14)⟩,
      ⟨some 20, none, .ext 3 (.t 14)⟩,
      ⟨some 3, none, .mv (.t 17)⟩,
      ⟨some 4, none, .mv (.t 18)⟩,
      ⟨some 5, none, .mv (.t 19)⟩,
      ⟨some 6, none, .mv (.t 20)⟩])
    (.seq (.ops [⟨some 21, none, .mv (.t 3)⟩,
      ⟨some 22, none, .mv (.t 4)⟩,
      ⟨some 23, none, .mv (.t 5)⟩,
      ⟨some 24, none, .mv (.t 6)⟩,
      ⟨some 25, none, .call (.k (.fn n_impl_RunServers [] [])) [.t 21, .t 22, .t 23, .t 24]⟩,
      ⟨some 7, none, .alloc ty_impl_ServerRun [.sn, .sn, .sn, .sn]⟩,
      ⟨none, none, .st 4 (.t 7) (.t 25)⟩])
    (.seq (.seq (.plan [0, 1, 2, 3, 4] [⟨some 26, none, .ldn 4 (.t 7)⟩,
      ⟨some 27, none, .mv (.t 3)⟩,
      ⟨some 28, none, .mv (.t 4)⟩,
      ⟨some 29, none, .mv (.t 5)⟩,
      ⟨some 30, none, .mv (.t 6)⟩]
      (.one 5 ⟨some 31, none, .call (.k (.fn n_spec_RunServers [] [])) [.t 27, .t 28, .t 29, .t 30]⟩ [(26, some 4, 7)] []
        []
      (.one 6 ⟨some 32, none, .call (.k (.fn n_laws_sameRun [] [])) [.t 26, .t 31]⟩ [] [7]
        [⟨some 33, none, .not (.t 32)⟩]
      .fin)))
    (.cond (.t 33) (.seq (.ops [⟨some 2, none, .mv (.k (.b false))⟩])
    (.ret))
    (.skip)))
    (.seq (.seq (.ops [⟨some 34, none, .fa 2 (.t 7)⟩,
      ⟨some 35, none, .ld (.t 34)⟩,
      ⟨some 36, none, .len (.t 35)⟩,
      ⟨some 37, none, .bin .neq (.t 36) (.k (.i .i64 120))⟩])
    (.cond (.t 37) (.seq (.ops [⟨some 38, none, .call (.k (.fn n_laws_alive [] [])) []⟩,
      ⟨some 2, none, .mv (.t 38)⟩])
    (.ret))
    (.skip)))
    (.seq (.seq (.ops [⟨some 8, none, .mv (.k (.i .i64 0))⟩])
    (.block 0 (.loop l0_laws_FnServerIdle)))
    (.seq (.ops [⟨some 58, none, .mv (.t 5)⟩,
      ⟨some 59, none, .len (.t 58)⟩,
      ⟨some 60, none, .msl ty_sl_impl_Arrival 24 [.sn] (.t 59)⟩,
      ⟨some 9, none, .mv (.t 60)⟩])
    (.seq (.ops [⟨some 61, none, .mv (.t 3)⟩,
      ⟨some 62, none, .mv (.t 4)⟩,
      ⟨some 63, none, .mv (.t 5)⟩,
      ⟨some 64, none, .mv (.t 9)⟩,
      ⟨some 65, none, .call (.k (.fn n_impl_RunServers [] [])) [.t 61, .t 62, .t 63, .t 64]⟩,
      ⟨some 10, none, .alloc ty_impl_ServerRun [.sn, .sn, .sn, .sn]⟩,
      ⟨none, none, .st 4 (.t 10) (.t 65)⟩])
    (.seq (.plan [0, 1, 2, 3] [⟨some 66, none, .fa 0 (.t 10)⟩,
      ⟨some 67, none, .ldn 2 (.t 66)⟩,
      ⟨some 68, none, .mv (.t 3)⟩,
      ⟨some 69, none, .mv (.t 4)⟩]
      (.one 4 ⟨some 70, none, .call (.k (.fn n_impl_RunEdf [] [])) [.t 68, .t 69]⟩ [(67, some 2, 66)] []
        []
      (.one 5 ⟨some 71, none, .call (.k (.fn n_laws_sameSchedule [] [])) [.t 67, .t 70]⟩ [] [6]
        [⟨some 2, none, .mv (.t 71)⟩]
      .fin)))
    (.ret))))))))))
theorem k_laws_FnServerIdle : chkF Try.prog Try.f5 72 c_laws_FnServerIdle [.t 2] = true := by kernel_rfl
theorem call_laws_FnServerIdle {args : List AV} {σ : List AB} {K : AV → List AB → Prop} (hn : args.length ≤ 72) (hw : wpC Try.prog σ.length 72 c_laws_FnServerIdle (retP σ.length [.t 2] K) ⟨initT 0 args, σ⟩) : CallWp Try.prog n_laws_FnServerIdle args σ K := call_fn mixed Try.func5 k_laws_FnServerIdle hn hw

-- loop.example/deadlinescheduler/laws.FnServerOrder
-- region 5: a plan with 1 orders
-- region 21 draws, 52 of 52 first
-- a cut
-- l1_laws_FnServerOrder: live at the head: 5 6 7 8 87 88 89 90 91 92 93 94 95 96 97 98 99 100 101 102 103 104 105 106 107 108 109 110 111 112 113 114 115 116 117 118 119 120 121 122 123 124 125 126 127 128 129 130 131 132 133 134 144 145 146
-- l0_laws_FnServerOrder: live at the head: 5 6 7 8 9 10 11 87 88 89 90 91 92 93 94 95 96 97 98 99 100 101 102 103 104 105 106 107 108 109 110 111 112 113 114 115 116 117 118 119 120 121 122 123 124 125 126 127 128 129 130 131 132 133 134 144 145 146
def l0_laws_FnServerOrder : LC := .seq (.seq (.ops [⟨some 54, none, .mv (.t 11)⟩,
      ⟨some 55, none, .mv (.t 6)⟩,
      ⟨some 56, none, .mv (.t 8)⟩,
      ⟨some 57, none, .ia 1 (.t 55) (.t 56)⟩,
      ⟨some 58, none, .ld (.t 57)⟩,
      ⟨some 59, none, .len (.t 58)⟩,
      ⟨some 60, none, .bin .lss (.t 54) (.t 59)⟩])
    (.cond (.t 60) (.skip)
    (.exit 2)))
    (.seq (.block 3 (.seq (.ops [⟨some 63, none, .fa 3 (.t 7)⟩,
      ⟨some 64, none, .ld (.t 63)⟩,
      ⟨some 65, none, .mv (.t 8)⟩,
      ⟨some 66, none, .ia 1 (.t 64) (.t 65)⟩,
      ⟨some 67, none, .ld (.t 66)⟩,
      ⟨some 68, none, .mv (.t 11)⟩,
      ⟨some 69, none, .ia 1 (.t 67) (.t 68)⟩,
      ⟨some 70, none, .ld (.t 69)⟩,
      ⟨some 12, none, .mv (.t 70)⟩])
    (.seq (.ops [⟨some 71, none, .mv (.t 10)⟩,
      ⟨some 72, none, .mv (.t 6)⟩,
      ⟨some 73, none, .mv (.t 8)⟩,
      ⟨some 74, none, .ia 1 (.t 72) (.t 73)⟩,
      ⟨some 75, none, .ld (.t 74)⟩,
      ⟨some 76, none, .mv (.t 11)⟩,
      ⟨some 77, none, .ia 2 (.t 75) (.t 76)⟩,
      ⟨some 78, none, .fa 1 (.t 77)⟩,
      ⟨some 79, none, .ld (.t 78)⟩,
      ⟨some 80, none, .bin .add (.t 71) (.t 79)⟩,
      ⟨some 10, none, .mv (.t 80)⟩])
    (.join (.seq (.ops [⟨some 81, none, .mv (.t 12)⟩,
      ⟨some 82, none, .bin .geq (.t 81) (.k (.i .i64 0))⟩])
    (.cond (.t 82) (.ops [⟨some 83, none, .mv (.t 10)⟩,
      ⟨some 9, none, .mv (.t 83)⟩])
    (.skip)))
    (.seq (.draw 52 [⟨some 84, none, .mv (.t 12)⟩,
      ⟨some 85, none, .bin .geq (.t 84) (.k (.i .i64 0))⟩,
      ⟨some 86, none, .mv (.t 85)⟩,
      ⟨some 87, (some (86, true)), .mv (.t 12)⟩,
      ⟨some 88, (some (86, true)), .mv (.t 6)⟩,
      ⟨some 89, (some (86, true)), .mv (.t 8)⟩,
      ⟨some 90, (some (86, true)), .ia 1 (.t 88) (.t 89)⟩,
      ⟨some 91, (some (86, true)), .ld (.t 90)⟩,
      ⟨some 92, (some (86, true)), .mv (.t 11)⟩,
      ⟨some 93, (some (86, true)), .ia 2 (.t 91) (.t 92)⟩,
      ⟨some 94, (some (86, true)), .fa 0 (.t 93)⟩,
      ⟨some 95, (some (86, true)), .ld (.t 94)⟩,
      ⟨some 96, (some (86, true)), .mv (.t 6)⟩,
      ⟨some 97, (some (86, true)), .mv (.t 8)⟩,
      ⟨some 98, (some (86, true)), .ia 1 (.t 96) (.t 97)⟩,
      ⟨some 99, (some (86, true)), .ld (.t 98)⟩,
      ⟨some 100, (some (86, true)), .mv (.t 11)⟩,
      ⟨some 101, (some (86, true)), .ia 2 (.t 99) (.t 100)⟩,
      ⟨some 102, (some (86, true)), .fa 1 (.t 101)⟩,
      ⟨some 103, (some (86, true)), .ld (.t 102)⟩,
      ⟨some 104, (some (86, true)), .bin .add (.t 95) (.t 103)⟩,
      ⟨some 105, (some (86, true)), .bin .lss (.t 87) (.t 104)⟩,
      ⟨some 106, (some (86, true)), .mv (.t 105)⟩,
      ⟨some 107, (some (106, false)), .mv (.t 11)⟩,
      ⟨some 108, (some (106, false)), .bin .gtr (.t 107) (.k (.i .i64 0))⟩,
      ⟨some 109, (some (106, false)), .mv (.t 108)⟩,
      ⟨some 110, (some (109, true)), .fa 3 (.t 7)⟩,
      ⟨some 111, (some (109, true)), .ld (.t 110)⟩,
      ⟨some 112, (some (109, true)), .mv (.t 8)⟩,
      ⟨some 113, (some (109, true)), .ia 1 (.t 111) (.t 112)⟩,
      ⟨some 114, (some (109, true)), .ld (.t 113)⟩,
      ⟨some 115, (some (109, true)), .mv (.t 11)⟩,
      ⟨some 116, (some (109, true)), .bin .sub (.t 115) (.k (.i .i64 1))⟩,
      ⟨some 117, (some (109, true)), .ia 1 (.t 114) (.t 116)⟩,
      ⟨some 118, (some (109, true)), .ld (.t 117)⟩,
      ⟨some 119, (some (109, true)), .bin .lss (.t 118) (.k (.i .i64 0))⟩,
      ⟨some 120, (some (109, true)), .mv (.t 119)⟩,
      ⟨some 121, (some (120, false)), .fa 3 (.t 7)⟩,
      ⟨some 122, (some (120, false)), .ld (.t 121)⟩,
      ⟨some 123, (some (120, false)), .mv (.t 8)⟩,
      ⟨some 124, (some (120, false)), .ia 1 (.t 122) (.t 123)⟩,
      ⟨some 125, (some (120, false)), .ld (.t 124)⟩,
      ⟨some 126, (some (120, false)), .mv (.t 11)⟩,
      ⟨some 127, (some (120, false)), .bin .sub (.t 126) (.k (.i .i64 1))⟩,
      ⟨some 128, (some (120, false)), .ia 1 (.t 125) (.t 127)⟩,
      ⟨some 129, (some (120, false)), .ld (.t 128)⟩,
      ⟨some 130, (some (120, false)), .mv (.t 12)⟩,
      ⟨some 131, (some (120, false)), .bin .geq (.t 129) (.t 130)⟩,
      ⟨some 132, (some (109, true)), .pick (.t 120) (.k (.b true)) (.t 131)⟩,
      ⟨some 133, (some (106, false)), .pick (.t 109) (.t 132) (.k (.b false))⟩,
      ⟨some 134, (some (86, true)), .pick (.t 106) (.k (.b true)) (.t 133)⟩,
      ⟨some 135, none, .pick (.t 86) (.t 134) (.k (.b false))⟩])
    (.cond (.t 135) (.seq (.ops [⟨some 2, none, .mv (.k (.b false))⟩])
    (.ret))
    (.skip)))))))
    (.ops [⟨some 61, none, .mv (.t 11)⟩,
      ⟨some 62, none, .bin .add (.t 61) (.k (.i .i64 1))⟩,
      ⟨some 11, none, .mv (.t 62)⟩]))
def l1_laws_FnServerOrder : LC := .seq (.seq (.ops [⟨some 48, none, .mv (.t 8)⟩,
      ⟨some 49, none, .mv (.t 5)⟩,
      ⟨some 50, none, .len (.t 49)⟩,
      ⟨some 51, none, .bin .lss (.t 48) (.t 50)⟩])
    (.cond (.t 51) (.skip)
    (.exit 0)))
    (.seq (.block 1 (.seq (.ops [⟨some 9, none, .mv (.k (.i .i64 0))⟩])
    (.seq (.ops [⟨some 10, none, .mv (.k (.i .i64 0))⟩])
    (.seq (.seq (.ops [⟨some 11, none, .mv (.k (.i .i64 0))⟩])
    (.block 2 (.loop l0_laws_FnServerOrder)))
    (.seq (.ops [⟨some 136, none, .fa 2 (.t 7)⟩,
      ⟨some 137, none, .ld (.t 136)⟩,
      ⟨some 138, none, .mv (.t 8)⟩,
      ⟨some 139, none, .call (.k (.fn n_laws_ticks [] [])) [.t 137, .t 138]⟩,
      ⟨some 13, none, .mv (.t 139)⟩])
    (.seq (.ops [⟨some 140, none, .mv (.t 13)⟩,
      ⟨some 141, none, .mv (.t 9)⟩,
      ⟨some 142, none, .bin .lss (.t 140) (.t 141)⟩,
      ⟨some 143, none, .mv (.t 142)⟩,
      ⟨some 144, (some (143, false)), .mv (.t 13)⟩,
      ⟨some 145, (some (143, false)), .mv (.t 10)⟩,
      ⟨some 146, (some (143, false)), .bin .gtr (.t 144) (.t 145)⟩,
      ⟨some 147, none, .pick (.t 143) (.k (.b true)) (.t 146)⟩])
    (.cond (.t 147) (.seq (.ops [⟨some 2, none, .mv (.k (.b false))⟩])
    (.ret))
    (.skip))))))))
    (.ops [⟨some 52, none, .mv (.t 8)⟩,
      ⟨some 53, none, .bin .add (.t 52) (.k (.i .i64 1))⟩,
      ⟨some 8, none, .mv (.t 53)⟩]))
def c_laws_FnServerOrder : LC := .seq (.ops [⟨some 2, none, .mv (.k (.b false))⟩])
    (.seq (.seq (.ops [⟨some 14, none, .mv (.t 0)⟩,
      ⟨some 15, none, .len (.t 14)⟩,
      ⟨some 16, none, .bin .gtr (.t 15) (.k (.i .i64 1048576))⟩])
    (.cond (.t 16) (.seq (.ops [⟨some 2, none, .mv (.k (.b true))⟩])
    (.ret))
    (.skip)))
    (.seq (.ops [⟨some 18, none, .mv (.t 0)⟩,
      ⟨some 19, none, .call (.k (.fn n_spec_DrawRunServers [] [])) [.t 18]⟩,
      ⟨some 17, none, .mv (.t 19)⟩,
      ⟨some 20, none, .ext 0 (.t 17)⟩,
      ⟨some 21, none, .ext 1 (.t 17)⟩,
      ⟨some 22, none, .ext 2 (.t 17)⟩,
      ⟨some 23, none, .ext 3 (.t 17)⟩,
      ⟨some 3, none, .mv (.t 20)⟩,
      ⟨some 4, none, .mv (.t 21)⟩,
      ⟨some 5, none, .mv (.t 22)⟩,
      ⟨some 6, none, .mv (.t 23)⟩])
    (.seq (.ops [⟨some 24, none, .mv (.t 3)⟩,
      ⟨some 25, none, .mv (.t 4)⟩,
      ⟨some 26, none, .mv (.t 5)⟩,
      ⟨some 27, none, .mv (.t 6)⟩,
      ⟨some 28, none, .call (.k (.fn n_impl_RunServers [] [])) [.t 24, .t 25, .t 26, .t 27]⟩,
      ⟨some 7, none, .alloc ty_impl_ServerRun [.sn, .sn, .sn, .sn]⟩,
      ⟨none, none, .st 4 (.t 7) (.t 28)⟩])
    (.seq (.seq (.plan [0, 1, 2, 3, 4] [⟨some 29, none, .ldn 4 (.t 7)⟩,
      ⟨some 30, none, .mv (.t 3)⟩,
      ⟨some 31, none, .mv (.t 4)⟩,
      ⟨some 32, none, .mv (.t 5)⟩,
      ⟨some 33, none, .mv (.t 6)⟩]
      (.one 5 ⟨some 34, none, .call (.k (.fn n_spec_RunServers [] [])) [.t 30, .t 31, .t 32, .t 33]⟩ [(29, some 4, 7)] []
        []
      (.one 6 ⟨some 35, none, .call (.k (.fn n_laws_sameRun [] [])) [.t 29, .t 34]⟩ [] [7]
        [⟨some 36, none, .not (.t 35)⟩]
      .fin)))
    (.cond (.t 36) (.seq (.ops [⟨some 2, none, .mv (.k (.b false))⟩])
    (.ret))
    (.skip)))
    (.seq (.seq (.ops [⟨some 37, none, .fa 2 (.t 7)⟩,
      ⟨some 38, none, .ld (.t 37)⟩,
      ⟨some 39, none, .len (.t 38)⟩,
      ⟨some 40, none, .bin .neq (.t 39) (.k (.i .i64 120))⟩])
    (.cond (.t 40) (.seq (.ops [⟨some 41, none, .fa 3 (.t 7)⟩,
      ⟨some 42, none, .ld (.t 41)⟩,
      ⟨some 43, none, .len (.t 42)⟩,
      ⟨some 44, none, .bin .eql (.t 43) (.k (.i .i64 0))⟩,
      ⟨some 45, none, .mv (.t 44)⟩,
      ⟨some 46, (some (45, true)), .call (.k (.fn n_laws_alive [] [])) []⟩,
      ⟨some 47, none, .pick (.t 45) (.t 46) (.k (.b false))⟩,
      ⟨some 2, none, .mv (.t 47)⟩])
    (.ret))
    (.skip)))
    (.seq (.seq (.ops [⟨some 8, none, .mv (.k (.i .i64 0))⟩])
    (.block 0 (.loop l1_laws_FnServerOrder)))
    (.seq (.ops [⟨some 2, none, .mv (.k (.b true))⟩])
    (.ret))))))))
theorem k_laws_FnServerOrder : chkF Try.prog Try.f6 148 c_laws_FnServerOrder [.t 2] = true := by kernel_rfl
theorem call_laws_FnServerOrder {args : List AV} {σ : List AB} {K : AV → List AB → Prop} (hn : args.length ≤ 148) (hw : wpC Try.prog σ.length 148 c_laws_FnServerOrder (retP σ.length [.t 2] K) ⟨initT 0 args, σ⟩) : CallWp Try.prog n_laws_FnServerOrder args σ K := call_fn mixed Try.func6 k_laws_FnServerOrder hn hw

-- loop.example/deadlinescheduler/laws.FnServerIsolation
-- region 5: a plan with 1 orders
def c_laws_FnServerIsolation : LC := .seq (.ops [⟨some 2, none, .mv (.k (.b false))⟩])
    (.seq (.seq (.ops [⟨some 8, none, .mv (.t 0)⟩,
      ⟨some 9, none, .len (.t 8)⟩,
      ⟨some 10, none, .bin .gtr (.t 9) (.k (.i .i64 1048576))⟩])
    (.cond (.t 10) (.seq (.ops [⟨some 2, none, .mv (.k (.b true))⟩])
    (.ret))
    (.skip)))
    (.seq (.ops [⟨some 12, none, .mv (.t 0)⟩,
      ⟨some 13, none, .call (.k (.fn n_spec_DrawRunServers [] [])) [.t 12]⟩,
      ⟨some 11, none, .mv (.t 13)⟩,
      ⟨some 14, none, .ext 0 (.t 11)⟩,
      ⟨some 15, none, .ext 1 (.t 11)⟩,
      ⟨some 16, none, .ext 2 (.t 11)⟩,
      ⟨some 17, none, .ext 3 (.t 11)⟩,
      ⟨some 3, none, .mv (.t 14)⟩,
      ⟨some 4, none, .mv (.t 15)⟩,
      ⟨some 5, none, .mv (.t 16)⟩,
      ⟨some 6, none, .mv (.t 17)⟩])
    (.seq (.ops [⟨some 18, none, .mv (.t 3)⟩,
      ⟨some 19, none, .mv (.t 4)⟩,
      ⟨some 20, none, .mv (.t 5)⟩,
      ⟨some 21, none, .mv (.t 6)⟩,
      ⟨some 22, none, .call (.k (.fn n_impl_RunServers [] [])) [.t 18, .t 19, .t 20, .t 21]⟩,
      ⟨some 7, none, .alloc ty_impl_ServerRun [.sn, .sn, .sn, .sn]⟩,
      ⟨none, none, .st 4 (.t 7) (.t 22)⟩])
    (.seq (.seq (.plan [0, 1, 2, 3, 4] [⟨some 23, none, .ldn 4 (.t 7)⟩,
      ⟨some 24, none, .mv (.t 3)⟩,
      ⟨some 25, none, .mv (.t 4)⟩,
      ⟨some 26, none, .mv (.t 5)⟩,
      ⟨some 27, none, .mv (.t 6)⟩]
      (.one 5 ⟨some 28, none, .call (.k (.fn n_spec_RunServers [] [])) [.t 24, .t 25, .t 26, .t 27]⟩ [(23, some 4, 7)] []
        []
      (.one 6 ⟨some 29, none, .call (.k (.fn n_laws_sameRun [] [])) [.t 23, .t 28]⟩ [] [7]
        [⟨some 30, none, .not (.t 29)⟩]
      .fin)))
    (.cond (.t 30) (.seq (.ops [⟨some 2, none, .mv (.k (.b false))⟩])
    (.ret))
    (.skip)))
    (.seq (.seq (.ops [⟨some 31, none, .fa 2 (.t 7)⟩,
      ⟨some 32, none, .ld (.t 31)⟩,
      ⟨some 33, none, .len (.t 32)⟩,
      ⟨some 34, none, .bin .neq (.t 33) (.k (.i .i64 120))⟩,
      ⟨some 35, none, .mv (.t 34)⟩,
      ⟨some 36, (some (35, false)), .mv (.t 3)⟩,
      ⟨some 37, (some (35, false)), .mv (.t 5)⟩,
      ⟨some 38, (some (35, false)), .call (.k (.fn n_impl_ServersFeasible [] [])) [.t 36, .t 37]⟩,
      ⟨some 39, (some (35, false)), .not (.t 38)⟩,
      ⟨some 40, none, .pick (.t 35) (.k (.b true)) (.t 39)⟩])
    (.cond (.t 40) (.seq (.ops [⟨some 41, none, .call (.k (.fn n_laws_alive [] [])) []⟩,
      ⟨some 2, none, .mv (.t 41)⟩])
    (.ret))
    (.skip)))
    (.seq (.ops [⟨some 42, none, .mv (.t 4)⟩,
      ⟨some 43, none, .fa 0 (.t 7)⟩,
      ⟨some 44, none, .ldn 2 (.t 43)⟩,
      ⟨some 45, none, .call (.k (.fn n_impl_Missed [] [])) [.t 42, .t 44]⟩,
      ⟨some 46, none, .len (.t 45)⟩,
      ⟨some 47, none, .bin .eql (.t 46) (.k (.i .i64 0))⟩,
      ⟨some 2, none, .mv (.t 47)⟩])
    (.ret)))))))
theorem k_laws_FnServerIsolation : chkF Try.prog Try.f7 48 c_laws_FnServerIsolation [.t 2] = true := by kernel_rfl
theorem call_laws_FnServerIsolation {args : List AV} {σ : List AB} {K : AV → List AB → Prop} (hn : args.length ≤ 48) (hw : wpC Try.prog σ.length 48 c_laws_FnServerIsolation (retP σ.length [.t 2] K) ⟨initT 0 args, σ⟩) : CallWp Try.prog n_laws_FnServerIsolation args σ K := call_fn mixed Try.func7 k_laws_FnServerIsolation hn hw

-- loop.example/deadlinescheduler/laws.FnResourcesStarted
-- region 5: a plan with 1 orders
-- region 17 draws, 34 of 34 first
-- l1_laws_FnResourcesStarted: live at the head: 5 6 7 8 60 61 62 63 64 65 66 67 68 69 72 73 74 75 76 77 78 79 80 81 82 83 84 85 86
-- l0_laws_FnResourcesStarted: live at the head: 5 6 7 8 9 10 60 61 62 63 64 65 66 67 68 69 72 73 74 75 76 77 78 79 80 81 82 83 84 85 86
def l0_laws_FnResourcesStarted : LC := .seq (.seq (.ops [⟨some 48, none, .mv (.t 10)⟩,
      ⟨some 49, none, .mv (.t 5)⟩,
      ⟨some 50, none, .len (.t 49)⟩,
      ⟨some 51, none, .bin .lss (.t 48) (.t 50)⟩])
    (.cond (.t 51) (.skip)
    (.exit 2)))
    (.seq (.block 3 (.seq (.draw 34 [⟨some 54, none, .mv (.t 7)⟩,
      ⟨some 55, none, .mv (.t 10)⟩,
      ⟨some 56, none, .ia 1 (.t 54) (.t 55)⟩,
      ⟨some 57, none, .ld (.t 56)⟩,
      ⟨some 58, none, .bin .gtr (.t 57) (.k (.i .i64 0))⟩,
      ⟨some 59, none, .mv (.t 58)⟩,
      ⟨some 60, (some (59, true)), .mv (.t 7)⟩,
      ⟨some 61, (some (59, true)), .mv (.t 10)⟩,
      ⟨some 62, (some (59, true)), .ia 1 (.t 60) (.t 61)⟩,
      ⟨some 63, (some (59, true)), .ld (.t 62)⟩,
      ⟨some 64, (some (59, true)), .mv (.t 5)⟩,
      ⟨some 65, (some (59, true)), .mv (.t 10)⟩,
      ⟨some 66, (some (59, true)), .ia 4 (.t 64) (.t 65)⟩,
      ⟨some 67, (some (59, true)), .fa 3 (.t 66)⟩,
      ⟨some 68, (some (59, true)), .ld (.t 67)⟩,
      ⟨some 69, (some (59, true)), .bin .lss (.t 63) (.t 68)⟩,
      ⟨some 70, none, .pick (.t 59) (.t 69) (.k (.b false))⟩,
      ⟨some 71, none, .mv (.t 70)⟩,
      ⟨some 72, (some (71, true)), .mv (.t 9)⟩,
      ⟨some 73, (some (71, true)), .bin .lss (.t 72) (.k (.i .i64 0))⟩,
      ⟨some 74, (some (71, true)), .mv (.t 73)⟩,
      ⟨some 75, (some (74, false)), .mv (.t 5)⟩,
      ⟨some 76, (some (74, false)), .mv (.t 10)⟩,
      ⟨some 77, (some (74, false)), .ia 4 (.t 75) (.t 76)⟩,
      ⟨some 78, (some (74, false)), .fa 2 (.t 77)⟩,
      ⟨some 79, (some (74, false)), .ld (.t 78)⟩,
      ⟨some 80, (some (74, false)), .mv (.t 5)⟩,
      ⟨some 81, (some (74, false)), .mv (.t 9)⟩,
      ⟨some 82, (some (74, false)), .ia 4 (.t 80) (.t 81)⟩,
      ⟨some 83, (some (74, false)), .fa 2 (.t 82)⟩,
      ⟨some 84, (some (74, false)), .ld (.t 83)⟩,
      ⟨some 85, (some (74, false)), .bin .lss (.t 79) (.t 84)⟩,
      ⟨some 86, (some (71, true)), .pick (.t 74) (.k (.b true)) (.t 85)⟩,
      ⟨some 87, none, .pick (.t 71) (.t 86) (.k (.b false))⟩])
    (.cond (.t 87) (.seq (.ops [⟨some 2, none, .mv (.k (.b false))⟩])
    (.ret))
    (.skip))))
    (.ops [⟨some 52, none, .mv (.t 10)⟩,
      ⟨some 53, none, .bin .add (.t 52) (.k (.i .i64 1))⟩,
      ⟨some 10, none, .mv (.t 53)⟩]))
def l1_laws_FnResourcesStarted : LC := .seq (.seq (.ops [⟨some 39, none, .mv (.t 8)⟩,
      ⟨some 40, none, .bin .lss (.t 39) (.k (.i .i64 120))⟩])
    (.cond (.t 40) (.skip)
    (.exit 0)))
    (.seq (.block 1 (.seq (.ops [⟨some 43, none, .fa 0 (.t 6)⟩,
      ⟨some 44, none, .ld (.t 43)⟩,
      ⟨some 45, none, .mv (.t 8)⟩,
      ⟨some 46, none, .ia 1 (.t 44) (.t 45)⟩,
      ⟨some 47, none, .ld (.t 46)⟩,
      ⟨some 9, none, .mv (.t 47)⟩])
    (.seq (.seq (.ops [⟨some 10, none, .mv (.k (.i .i64 0))⟩])
    (.block 2 (.loop l0_laws_FnResourcesStarted)))
    (.seq (.ops [⟨some 88, none, .mv (.t 9)⟩,
      ⟨some 89, none, .bin .geq (.t 88) (.k (.i .i64 0))⟩])
    (.cond (.t 89) (.ops [⟨some 90, none, .mv (.t 7)⟩,
      ⟨some 91, none, .mv (.t 9)⟩,
      ⟨some 92, none, .mv (.t 7)⟩,
      ⟨some 93, none, .mv (.t 9)⟩,
      ⟨some 94, none, .ia 1 (.t 92) (.t 93)⟩,
      ⟨some 95, none, .ld (.t 94)⟩,
      ⟨some 96, none, .bin .add (.t 95) (.k (.i .i64 1))⟩,
      ⟨some 97, none, .ia 1 (.t 90) (.t 91)⟩,
      ⟨none, none, .st 1 (.t 97) (.t 96)⟩])
    (.skip))))))
    (.ops [⟨some 41, none, .mv (.t 8)⟩,
      ⟨some 42, none, .bin .add (.t 41) (.k (.i .i64 1))⟩,
      ⟨some 8, none, .mv (.t 42)⟩]))
def c_laws_FnResourcesStarted : LC := .seq (.ops [⟨some 2, none, .mv (.k (.b false))⟩])
    (.seq (.seq (.ops [⟨some 11, none, .mv (.t 0)⟩,
      ⟨some 12, none, .len (.t 11)⟩,
      ⟨some 13, none, .bin .gtr (.t 12) (.k (.i .i64 1048576))⟩])
    (.cond (.t 13) (.seq (.ops [⟨some 2, none, .mv (.k (.b true))⟩])
    (.ret))
    (.skip)))
    (.seq (.ops [⟨some 15, none, .mv (.t 0)⟩,
      ⟨some 16, none, .call (.k (.fn n_spec_DrawRunResources [] [])) [.t 15]⟩,
      ⟨some 14, none, .mv (.t 16)⟩,
      ⟨some 17, none, .ext 0 (.t 14)⟩,
      ⟨some 18, none, .ext 1 (.t 14)⟩,
      ⟨some 19, none, .ext 2 (.t 14)⟩,
      ⟨some 3, none, .mv (.t 17)⟩,
      ⟨some 4, none, .mv (.t 18)⟩,
      ⟨some 5, none, .mv (.t 19)⟩])
    (.seq (.ops [⟨some 20, none, .mv (.t 3)⟩,
      ⟨some 21, none, .mv (.t 4)⟩,
      ⟨some 22, none, .mv (.t 5)⟩,
      ⟨some 23, none, .call (.k (.fn n_impl_RunResources [] [])) [.t 20, .t 21, .t 22]⟩,
      ⟨some 6, none, .alloc ty_impl_Schedule [.sn, .sn]⟩,
      ⟨none, none, .st 2 (.t 6) (.t 23)⟩])
    (.seq (.seq (.plan [0, 1, 2, 3] [⟨some 24, none, .ldn 2 (.t 6)⟩,
      ⟨some 25, none, .mv (.t 3)⟩,
      ⟨some 26, none, .mv (.t 4)⟩,
      ⟨some 27, none, .mv (.t 5)⟩]
      (.one 4 ⟨some 28, none, .call (.k (.fn n_spec_RunResources [] [])) [.t 25, .t 26, .t 27]⟩ [(24, some 2, 6)] []
        []
      (.one 5 ⟨some 29, none, .call (.k (.fn n_laws_sameSchedule [] [])) [.t 24, .t 28]⟩ [] [6]
        [⟨some 30, none, .not (.t 29)⟩]
      .fin)))
    (.cond (.t 30) (.seq (.ops [⟨some 2, none, .mv (.k (.b false))⟩])
    (.ret))
    (.skip)))
    (.seq (.seq (.ops [⟨some 31, none, .fa 0 (.t 6)⟩,
      ⟨some 32, none, .ld (.t 31)⟩,
      ⟨some 33, none, .len (.t 32)⟩,
      ⟨some 34, none, .bin .neq (.t 33) (.k (.i .i64 120))⟩])
    (.cond (.t 34) (.seq (.ops [⟨some 35, none, .call (.k (.fn n_laws_alive [] [])) []⟩,
      ⟨some 2, none, .mv (.t 35)⟩])
    (.ret))
    (.skip)))
    (.seq (.ops [⟨some 36, none, .mv (.t 5)⟩,
      ⟨some 37, none, .len (.t 36)⟩,
      ⟨some 38, none, .msl ty_int 8 [.i .i64 0] (.t 37)⟩,
      ⟨some 7, none, .mv (.t 38)⟩])
    (.seq (.seq (.ops [⟨some 8, none, .mv (.k (.i .i64 0))⟩])
    (.block 0 (.loop l1_laws_FnResourcesStarted)))
    (.seq (.ops [⟨some 2, none, .mv (.k (.b true))⟩])
    (.ret)))))))))
theorem k_laws_FnResourcesStarted : chkF Try.prog Try.f8 98 c_laws_FnResourcesStarted [.t 2] = true := by kernel_rfl
theorem call_laws_FnResourcesStarted {args : List AV} {σ : List AB} {K : AV → List AB → Prop} (hn : args.length ≤ 98) (hw : wpC Try.prog σ.length 98 c_laws_FnResourcesStarted (retP σ.length [.t 2] K) ⟨initT 0 args, σ⟩) : CallWp Try.prog n_laws_FnResourcesStarted args σ K := call_fn mixed Try.func8 k_laws_FnResourcesStarted hn hw

-- loop.example/deadlinescheduler/laws.FnResourcesNone
-- region 5: a plan with 1 orders
def c_laws_FnResourcesNone : LC := .seq (.ops [⟨some 2, none, .mv (.k (.b false))⟩])
    (.seq (.seq (.ops [⟨some 7, none, .mv (.t 0)⟩,
      ⟨some 8, none, .len (.t 7)⟩,
      ⟨some 9, none, .bin .gtr (.t 8) (.k (.i .i64 1048576))⟩])
    (.cond (.t 9) (.seq (.ops [⟨some 2, none, .mv (.k (.b true))⟩])
    (.ret))
    (.skip)))
    (.seq (.ops [⟨some 11, none, .mv (.t 0)⟩,
      ⟨some 12, none, .call (.k (.fn n_spec_DrawRunResources [] [])) [.t 11]⟩,
      ⟨some 10, none, .mv (.t 12)⟩,
      ⟨some 13, none, .ext 0 (.t 10)⟩,
      ⟨some 14, none, .ext 1 (.t 10)⟩,
      ⟨some 15, none, .ext 2 (.t 10)⟩,
      ⟨some 3, none, .mv (.t 13)⟩,
      ⟨some 4, none, .mv (.t 14)⟩,
      ⟨some 5, none, .mv (.t 15)⟩])
    (.seq (.ops [⟨some 16, none, .mv (.t 3)⟩,
      ⟨some 17, none, .mv (.t 4)⟩,
      ⟨some 18, none, .mv (.t 5)⟩,
      ⟨some 19, none, .call (.k (.fn n_impl_RunResources [] [])) [.t 16, .t 17, .t 18]⟩,
      ⟨some 6, none, .alloc ty_impl_Schedule [.sn, .sn]⟩,
      ⟨none, none, .st 2 (.t 6) (.t 19)⟩])
    (.seq (.seq (.plan [0, 1, 2, 3] [⟨some 20, none, .ldn 2 (.t 6)⟩,
      ⟨some 21, none, .mv (.t 3)⟩,
      ⟨some 22, none, .mv (.t 4)⟩,
      ⟨some 23, none, .mv (.t 5)⟩]
      (.one 4 ⟨some 24, none, .call (.k (.fn n_spec_RunResources [] [])) [.t 21, .t 22, .t 23]⟩ [(20, some 2, 6)] []
        []
      (.one 5 ⟨some 25, none, .call (.k (.fn n_laws_sameSchedule [] [])) [.t 20, .t 24]⟩ [] [6]
        [⟨some 26, none, .not (.t 25)⟩]
      .fin)))
    (.cond (.t 26) (.seq (.ops [⟨some 2, none, .mv (.k (.b false))⟩])
    (.ret))
    (.skip)))
    (.seq (.ops [⟨some 27, none, .mv (.t 3)⟩,
      ⟨some 28, none, .mv (.t 3)⟩,
      ⟨some 29, none, .len (.t 28)⟩,
      ⟨some 30, none, .msl ty_impl_Section 24 [.i .i64 0, .i .i64 0, .i .i64 0] (.t 29)⟩,
      ⟨some 31, none, .mv (.t 5)⟩,
      ⟨some 32, none, .call (.k (.fn n_impl_RunResources [] [])) [.t 27, .t 30, .t 31]⟩,
      ⟨some 33, none, .mv (.t 3)⟩,
      ⟨some 34, none, .mv (.t 5)⟩,
      ⟨some 35, none, .call (.k (.fn n_impl_RunEdf [] [])) [.t 33, .t 34]⟩,
      ⟨some 36, none, .call (.k (.fn n_laws_sameSchedule [] [])) [.t 32, .t 35]⟩,
      ⟨some 37, none, .mv (.t 36)⟩,
      ⟨some 38, (some (37, true)), .call (.k (.fn n_laws_alive [] [])) []⟩,
      ⟨some 39, none, .pick (.t 37) (.t 38) (.k (.b false))⟩,
      ⟨some 2, none, .mv (.t 39)⟩])
    (.ret))))))
theorem k_laws_FnResourcesNone : chkF Try.prog Try.f9 40 c_laws_FnResourcesNone [.t 2] = true := by kernel_rfl
theorem call_laws_FnResourcesNone {args : List AV} {σ : List AB} {K : AV → List AB → Prop} (hn : args.length ≤ 40) (hw : wpC Try.prog σ.length 40 c_laws_FnResourcesNone (retP σ.length [.t 2] K) ⟨initT 0 args, σ⟩) : CallWp Try.prog n_laws_FnResourcesNone args σ K := call_fn mixed Try.func9 k_laws_FnResourcesNone hn hw

-- loop.example/deadlinescheduler/laws.FnResourcesMutex
-- region 5: a plan with 1 orders
-- region 14 draws, 15 of 17 first
-- region 20 draws, 36 of 36 first
-- a cut
-- l1_laws_FnResourcesMutex: live at the head: 4 5 6 7 8 85 86 87 88 89 90 91 94 95 96 97 98 99 100 101 102 103 106 107 108 109 110 111 112 113 114 115
-- l0_laws_FnResourcesMutex: live at the head: 4 5 6 7 8 9 10 85 86 87 88 89 90 91 94 95 96 97 98 99 100 101 102 103 106 107 108 109 110 111 112 113 114 115
def l0_laws_FnResourcesMutex : LC := .seq (.seq (.ops [⟨some 67, none, .mv (.t 10)⟩,
      ⟨some 68, none, .mv (.t 5)⟩,
      ⟨some 69, none, .len (.t 68)⟩,
      ⟨some 70, none, .bin .lss (.t 67) (.t 69)⟩])
    (.cond (.t 70) (.skip)
    (.exit 2)))
    (.seq (.block 3 (.seq (.ops [⟨some 73, none, .mv (.t 4)⟩,
      ⟨some 74, none, .mv (.t 5)⟩,
      ⟨some 75, none, .mv (.t 10)⟩,
      ⟨some 76, none, .ia 4 (.t 74) (.t 75)⟩,
      ⟨some 77, none, .fa 0 (.t 76)⟩,
      ⟨some 78, none, .ld (.t 77)⟩,
      ⟨some 79, none, .ia 3 (.t 73) (.t 78)⟩,
      ⟨some 80, none, .ldn 3 (.t 79)⟩,
      ⟨some 11, none, .alloc ty_impl_Section [.i .i64 0, .i .i64 0, .i .i64 0]⟩,
      ⟨none, none, .st 3 (.t 11) (.t 80)⟩])
    (.seq (.draw 36 [⟨some 81, none, .fa 1 (.t 11)⟩,
      ⟨some 82, none, .ld (.t 81)⟩,
      ⟨some 83, none, .bin .gtr (.t 82) (.k (.i .i64 0))⟩,
      ⟨some 84, none, .mv (.t 83)⟩,
      ⟨some 85, (some (84, true)), .mv (.t 7)⟩,
      ⟨some 86, (some (84, true)), .mv (.t 10)⟩,
      ⟨some 87, (some (84, true)), .ia 1 (.t 85) (.t 86)⟩,
      ⟨some 88, (some (84, true)), .ld (.t 87)⟩,
      ⟨some 89, (some (84, true)), .fa 0 (.t 11)⟩,
      ⟨some 90, (some (84, true)), .ld (.t 89)⟩,
      ⟨some 91, (some (84, true)), .bin .gtr (.t 88) (.t 90)⟩,
      ⟨some 92, none, .pick (.t 84) (.t 91) (.k (.b false))⟩,
      ⟨some 93, none, .mv (.t 92)⟩,
      ⟨some 94, (some (93, true)), .mv (.t 7)⟩,
      ⟨some 95, (some (93, true)), .mv (.t 10)⟩,
      ⟨some 96, (some (93, true)), .ia 1 (.t 94) (.t 95)⟩,
      ⟨some 97, (some (93, true)), .ld (.t 96)⟩,
      ⟨some 98, (some (93, true)), .fa 0 (.t 11)⟩,
      ⟨some 99, (some (93, true)), .ld (.t 98)⟩,
      ⟨some 100, (some (93, true)), .fa 1 (.t 11)⟩,
      ⟨some 101, (some (93, true)), .ld (.t 100)⟩,
      ⟨some 102, (some (93, true)), .bin .add (.t 99) (.t 101)⟩,
      ⟨some 103, (some (93, true)), .bin .lss (.t 97) (.t 102)⟩,
      ⟨some 104, none, .pick (.t 93) (.t 103) (.k (.b false))⟩,
      ⟨some 105, none, .mv (.t 104)⟩,
      ⟨some 106, (some (105, true)), .mv (.t 7)⟩,
      ⟨some 107, (some (105, true)), .mv (.t 10)⟩,
      ⟨some 108, (some (105, true)), .ia 1 (.t 106) (.t 107)⟩,
      ⟨some 109, (some (105, true)), .ld (.t 108)⟩,
      ⟨some 110, (some (105, true)), .mv (.t 5)⟩,
      ⟨some 111, (some (105, true)), .mv (.t 10)⟩,
      ⟨some 112, (some (105, true)), .ia 4 (.t 110) (.t 111)⟩,
      ⟨some 113, (some (105, true)), .fa 3 (.t 112)⟩,
      ⟨some 114, (some (105, true)), .ld (.t 113)⟩,
      ⟨some 115, (some (105, true)), .bin .lss (.t 109) (.t 114)⟩,
      ⟨some 116, none, .pick (.t 105) (.t 115) (.k (.b false))⟩])
    (.cond (.t 116) (.seq (.seq (.ops [⟨some 117, none, .mv (.t 9)⟩,
      ⟨some 118, none, .fa 2 (.t 11)⟩,
      ⟨some 119, none, .ld (.t 118)⟩,
      ⟨some 120, none, .call (.k (.fn n_laws_contains [] [])) [.t 117, .t 119]⟩])
    (.cond (.t 120) (.seq (.ops [⟨some 2, none, .mv (.k (.b false))⟩])
    (.ret))
    (.skip)))
    (.ops [⟨some 121, none, .mv (.t 9)⟩,
      ⟨some 122, none, .fa 2 (.t 11)⟩,
      ⟨some 123, none, .ld (.t 122)⟩,
      ⟨some 124, none, .bsl ty_int [.i .i64 0] 1 [(0, 1, .t 123)]⟩,
      ⟨some 125, none, .app ty_int 1 8 (.t 121) (.t 124)⟩,
      ⟨some 9, none, .mv (.t 125)⟩]))
    (.skip)))))
    (.ops [⟨some 71, none, .mv (.t 10)⟩,
      ⟨some 72, none, .bin .add (.t 71) (.k (.i .i64 1))⟩,
      ⟨some 10, none, .mv (.t 72)⟩]))
def l1_laws_FnResourcesMutex : LC := .seq (.seq (.ops [⟨some 40, none, .mv (.t 8)⟩,
      ⟨some 41, none, .bin .lss (.t 40) (.k (.i .i64 120))⟩])
    (.cond (.t 41) (.skip)
    (.exit 0)))
    (.seq (.block 1 (.join (.seq (.ops [⟨some 44, none, .fa 0 (.t 6)⟩,
      ⟨some 45, none, .ld (.t 44)⟩,
      ⟨some 46, none, .mv (.t 8)⟩,
      ⟨some 47, none, .ia 1 (.t 45) (.t 46)⟩,
      ⟨some 48, none, .ld (.t 47)⟩,
      ⟨some 49, none, .bin .geq (.t 48) (.k (.i .i64 0))⟩])
    (.cond (.t 49) (.draw 15 [⟨some 50, none, .mv (.t 7)⟩,
      ⟨some 51, none, .fa 0 (.t 6)⟩,
      ⟨some 52, none, .ld (.t 51)⟩,
      ⟨some 53, none, .mv (.t 8)⟩,
      ⟨some 54, none, .ia 1 (.t 52) (.t 53)⟩,
      ⟨some 55, none, .ld (.t 54)⟩,
      ⟨some 56, none, .mv (.t 7)⟩,
      ⟨some 57, none, .fa 0 (.t 6)⟩,
      ⟨some 58, none, .ld (.t 57)⟩,
      ⟨some 59, none, .mv (.t 8)⟩,
      ⟨some 60, none, .ia 1 (.t 58) (.t 59)⟩,
      ⟨some 61, none, .ld (.t 60)⟩,
      ⟨some 62, none, .ia 1 (.t 56) (.t 61)⟩,
      ⟨some 63, none, .ld (.t 62)⟩,
      ⟨some 64, none, .bin .add (.t 63) (.k (.i .i64 1))⟩,
      ⟨some 65, none, .ia 1 (.t 50) (.t 55)⟩,
      ⟨none, none, .st 1 (.t 65) (.t 64)⟩])
    (.skip)))
    (.seq (.ops [⟨some 66, none, .bsl ty_int [.i .i64 0] 0 []⟩,
      ⟨some 9, none, .mv (.t 66)⟩])
    (.seq (.ops [⟨some 10, none, .mv (.k (.i .i64 0))⟩])
    (.block 2 (.loop l0_laws_FnResourcesMutex))))))
    (.ops [⟨some 42, none, .mv (.t 8)⟩,
      ⟨some 43, none, .bin .add (.t 42) (.k (.i .i64 1))⟩,
      ⟨some 8, none, .mv (.t 43)⟩]))
def c_laws_FnResourcesMutex : LC := .seq (.ops [⟨some 2, none, .mv (.k (.b false))⟩])
    (.seq (.seq (.ops [⟨some 12, none, .mv (.t 0)⟩,
      ⟨some 13, none, .len (.t 12)⟩,
      ⟨some 14, none, .bin .gtr (.t 13) (.k (.i .i64 1048576))⟩])
    (.cond (.t 14) (.seq (.ops [⟨some 2, none, .mv (.k (.b true))⟩])
    (.ret))
    (.skip)))
    (.seq (.ops [⟨some 16, none, .mv (.t 0)⟩,
      ⟨some 17, none, .call (.k (.fn n_spec_DrawRunResources [] [])) [.t 16]⟩,
      ⟨some 15, none, .mv (.t 17)⟩,
      ⟨some 18, none, .ext 0 (.t 15)⟩,
      ⟨some 19, none, .ext 1 (.t 15)⟩,
      ⟨some 20, none, .ext 2 (.t 15)⟩,
      ⟨some 3, none, .mv (.t 18)⟩,
      ⟨some 4, none, .mv (.t 19)⟩,
      ⟨some 5, none, .mv (.t 20)⟩])
    (.seq (.ops [⟨some 21, none, .mv (.t 3)⟩,
      ⟨some 22, none, .mv (.t 4)⟩,
      ⟨some 23, none, .mv (.t 5)⟩,
      ⟨some 24, none, .call (.k (.fn n_impl_RunResources [] [])) [.t 21, .t 22, .t 23]⟩,
      ⟨some 6, none, .alloc ty_impl_Schedule [.sn, .sn]⟩,
      ⟨none, none, .st 2 (.t 6) (.t 24)⟩])
    (.seq (.seq (.plan [0, 1, 2, 3] [⟨some 25, none, .ldn 2 (.t 6)⟩,
      ⟨some 26, none, .mv (.t 3)⟩,
      ⟨some 27, none, .mv (.t 4)⟩,
      ⟨some 28, none, .mv (.t 5)⟩]
      (.one 4 ⟨some 29, none, .call (.k (.fn n_spec_RunResources [] [])) [.t 26, .t 27, .t 28]⟩ [(25, some 2, 6)] []
        []
      (.one 5 ⟨some 30, none, .call (.k (.fn n_laws_sameSchedule [] [])) [.t 25, .t 29]⟩ [] [6]
        [⟨some 31, none, .not (.t 30)⟩]
      .fin)))
    (.cond (.t 31) (.seq (.ops [⟨some 2, none, .mv (.k (.b false))⟩])
    (.ret))
    (.skip)))
    (.seq (.seq (.ops [⟨some 32, none, .fa 0 (.t 6)⟩,
      ⟨some 33, none, .ld (.t 32)⟩,
      ⟨some 34, none, .len (.t 33)⟩,
      ⟨some 35, none, .bin .neq (.t 34) (.k (.i .i64 120))⟩])
    (.cond (.t 35) (.seq (.ops [⟨some 36, none, .call (.k (.fn n_laws_alive [] [])) []⟩,
      ⟨some 2, none, .mv (.t 36)⟩])
    (.ret))
    (.skip)))
    (.seq (.ops [⟨some 37, none, .mv (.t 5)⟩,
      ⟨some 38, none, .len (.t 37)⟩,
      ⟨some 39, none, .msl ty_int 8 [.i .i64 0] (.t 38)⟩,
      ⟨some 7, none, .mv (.t 39)⟩])
    (.seq (.seq (.ops [⟨some 8, none, .mv (.k (.i .i64 0))⟩])
    (.block 0 (.loop l1_laws_FnResourcesMutex)))
    (.seq (.ops [⟨some 2, none, .mv (.k (.b true))⟩])
    (.ret)))))))))
theorem k_laws_FnResourcesMutex : chkF Try.prog Try.f10 126 c_laws_FnResourcesMutex [.t 2] = true := by kernel_rfl
theorem call_laws_FnResourcesMutex {args : List AV} {σ : List AB} {K : AV → List AB → Prop} (hn : args.length ≤ 126) (hw : wpC Try.prog σ.length 126 c_laws_FnResourcesMutex (retP σ.length [.t 2] K) ⟨initT 0 args, σ⟩) : CallWp Try.prog n_laws_FnResourcesMutex args σ K := call_fn mixed Try.func10 k_laws_FnResourcesMutex hn hw

-- loop.example/deadlinescheduler/laws.FnResourcesDone
-- region 5: a plan with 1 orders
-- region 18 draws, 55 of 55 first
-- l1_laws_FnResourcesDone: live at the head: 5 6 7 46 47 48 49 50 51 52 53 54 55 56 76 77 78 79 80 81 82 83 84 85 86 87 88 89 90 91 92 93 94 95 96 97 98 99 100 101 102 103 104 107 108 109 110 111 112 113 114 115 116 117 118 119 120 121
-- l0_laws_FnResourcesDone: live at the head: 5 6 8 76 77 78 79 80 81 82 83 84 85 86 87 88 89 90 91 92 93 94 95 96 97 98 99 100 101 102 103 104 107 108 109 110 111 112 113 114 115 116 117 118 119 120 121
def l0_laws_FnResourcesDone : LC := .seq (.seq (.ops [⟨some 58, none, .mv (.t 8)⟩,
      ⟨some 59, none, .mv (.t 5)⟩,
      ⟨some 60, none, .len (.t 59)⟩,
      ⟨some 61, none, .bin .lss (.t 58) (.t 60)⟩])
    (.cond (.t 61) (.skip)
    (.exit 2)))
    (.seq (.block 3 (.seq (.ops [⟨some 64, none, .fa 0 (.t 6)⟩,
      ⟨some 65, none, .ld (.t 64)⟩,
      ⟨some 66, none, .mv (.t 8)⟩,
      ⟨some 67, none, .call (.k (.fn n_laws_ticks [] [])) [.t 65, .t 66]⟩,
      ⟨some 9, none, .mv (.t 67)⟩])
    (.seq (.draw 55 [⟨some 68, none, .mv (.t 9)⟩,
      ⟨some 69, none, .mv (.t 5)⟩,
      ⟨some 70, none, .mv (.t 8)⟩,
      ⟨some 71, none, .ia 4 (.t 69) (.t 70)⟩,
      ⟨some 72, none, .fa 3 (.t 71)⟩,
      ⟨some 73, none, .ld (.t 72)⟩,
      ⟨some 74, none, .bin .gtr (.t 68) (.t 73)⟩,
      ⟨some 75, none, .mv (.t 74)⟩,
      ⟨some 76, (some (75, false)), .fa 1 (.t 6)⟩,
      ⟨some 77, (some (75, false)), .ld (.t 76)⟩,
      ⟨some 78, (some (75, false)), .mv (.t 8)⟩,
      ⟨some 79, (some (75, false)), .ia 1 (.t 77) (.t 78)⟩,
      ⟨some 80, (some (75, false)), .ld (.t 79)⟩,
      ⟨some 81, (some (75, false)), .bin .geq (.t 80) (.k (.i .i64 0))⟩,
      ⟨some 82, (some (75, false)), .mv (.t 81)⟩,
      ⟨some 83, (some (82, true)), .mv (.t 9)⟩,
      ⟨some 84, (some (82, true)), .mv (.t 5)⟩,
      ⟨some 85, (some (82, true)), .mv (.t 8)⟩,
      ⟨some 86, (some (82, true)), .ia 4 (.t 84) (.t 85)⟩,
      ⟨some 87, (some (82, true)), .fa 3 (.t 86)⟩,
      ⟨some 88, (some (82, true)), .ld (.t 87)⟩,
      ⟨some 89, (some (82, true)), .bin .neq (.t 83) (.t 88)⟩,
      ⟨some 90, (some (82, true)), .mv (.t 89)⟩,
      ⟨some 91, (some (90, false)), .fa 0 (.t 6)⟩,
      ⟨some 92, (some (90, false)), .ld (.t 91)⟩,
      ⟨some 93, (some (90, false)), .fa 1 (.t 6)⟩,
      ⟨some 94, (some (90, false)), .ld (.t 93)⟩,
      ⟨some 95, (some (90, false)), .mv (.t 8)⟩,
      ⟨some 96, (some (90, false)), .ia 1 (.t 94) (.t 95)⟩,
      ⟨some 97, (some (90, false)), .ld (.t 96)⟩,
      ⟨some 98, (some (90, false)), .bin .sub (.t 97) (.k (.i .i64 1))⟩,
      ⟨some 99, (some (90, false)), .ia 1 (.t 92) (.t 98)⟩,
      ⟨some 100, (some (90, false)), .ld (.t 99)⟩,
      ⟨some 101, (some (90, false)), .mv (.t 8)⟩,
      ⟨some 102, (some (90, false)), .bin .neq (.t 100) (.t 101)⟩,
      ⟨some 103, (some (82, true)), .pick (.t 90) (.k (.b true)) (.t 102)⟩,
      ⟨some 104, (some (75, false)), .pick (.t 82) (.t 103) (.k (.b false))⟩,
      ⟨some 105, none, .pick (.t 75) (.k (.b true)) (.t 104)⟩,
      ⟨some 106, none, .mv (.t 105)⟩,
      ⟨some 107, (some (106, false)), .fa 1 (.t 6)⟩,
      ⟨some 108, (some (106, false)), .ld (.t 107)⟩,
      ⟨some 109, (some (106, false)), .mv (.t 8)⟩,
      ⟨some 110, (some (106, false)), .ia 1 (.t 108) (.t 109)⟩,
      ⟨some 111, (some (106, false)), .ld (.t 110)⟩,
      ⟨some 112, (some (106, false)), .bin .lss (.t 111) (.k (.i .i64 0))⟩,
      ⟨some 113, (some (106, false)), .mv (.t 112)⟩,
      ⟨some 114, (some (113, true)), .mv (.t 9)⟩,
      ⟨some 115, (some (113, true)), .mv (.t 5)⟩,
      ⟨some 116, (some (113, true)), .mv (.t 8)⟩,
      ⟨some 117, (some (113, true)), .ia 4 (.t 115) (.t 116)⟩,
      ⟨some 118, (some (113, true)), .fa 3 (.t 117)⟩,
      ⟨some 119, (some (113, true)), .ld (.t 118)⟩,
      ⟨some 120, (some (113, true)), .bin .eql (.t 114) (.t 119)⟩,
      ⟨some 121, (some (106, false)), .pick (.t 113) (.t 120) (.k (.b false))⟩,
      ⟨some 122, none, .pick (.t 106) (.k (.b true)) (.t 121)⟩])
    (.cond (.t 122) (.seq (.ops [⟨some 2, none, .mv (.k (.b false))⟩])
    (.ret))
    (.skip)))))
    (.ops [⟨some 62, none, .mv (.t 8)⟩,
      ⟨some 63, none, .bin .add (.t 62) (.k (.i .i64 1))⟩,
      ⟨some 8, none, .mv (.t 63)⟩]))
def l1_laws_FnResourcesDone : LC := .seq (.seq (.ops [⟨some 35, none, .mv (.t 7)⟩,
      ⟨some 36, none, .bin .lss (.t 35) (.k (.i .i64 120))⟩])
    (.cond (.t 36) (.skip)
    (.exit 0)))
    (.seq (.block 1 (.seq (.ops [⟨some 39, none, .fa 0 (.t 6)⟩,
      ⟨some 40, none, .ld (.t 39)⟩,
      ⟨some 41, none, .mv (.t 7)⟩,
      ⟨some 42, none, .ia 1 (.t 40) (.t 41)⟩,
      ⟨some 43, none, .ld (.t 42)⟩,
      ⟨some 44, none, .bin .geq (.t 43) (.k (.i .i64 0))⟩,
      ⟨some 45, none, .mv (.t 44)⟩,
      ⟨some 46, (some (45, true)), .mv (.t 5)⟩,
      ⟨some 47, (some (45, true)), .fa 0 (.t 6)⟩,
      ⟨some 48, (some (45, true)), .ld (.t 47)⟩,
      ⟨some 49, (some (45, true)), .mv (.t 7)⟩,
      ⟨some 50, (some (45, true)), .ia 1 (.t 48) (.t 49)⟩,
      ⟨some 51, (some (45, true)), .ld (.t 50)⟩,
      ⟨some 52, (some (45, true)), .ia 4 (.t 46) (.t 51)⟩,
      ⟨some 53, (some (45, true)), .fa 1 (.t 52)⟩,
      ⟨some 54, (some (45, true)), .ld (.t 53)⟩,
      ⟨some 55, (some (45, true)), .mv (.t 7)⟩,
      ⟨some 56, (some (45, true)), .bin .gtr (.t 54) (.t 55)⟩,
      ⟨some 57, none, .pick (.t 45) (.t 56) (.k (.b false))⟩])
    (.cond (.t 57) (.seq (.ops [⟨some 2, none, .mv (.k (.b false))⟩])
    (.ret))
    (.skip))))
    (.ops [⟨some 37, none, .mv (.t 7)⟩,
      ⟨some 38, none, .bin .add (.t 37) (.k (.i .i64 1))⟩,
      ⟨some 7, none, .mv (.t 38)⟩]))
def c_laws_FnResourcesDone : LC := .seq (.ops [⟨some 2, none, .mv (.k (.b false))⟩])
    (.seq (.seq (.ops [⟨some 10, none, .mv (.t 0)⟩,
      ⟨some 11, none, .len (.t 10)⟩,
      ⟨some 12, none, .bin .gtr (.t 11) (.k (.i .i64 1048576))⟩])
    (.cond (.t 12) (.seq (.ops [⟨some 2, none, .mv (.k (.b true))⟩])
    (.ret))
    (.skip)))
    (.seq (.ops [⟨some 14, none, .mv (.t 0)⟩,
      ⟨some 15, none, .call (.k (.fn n_spec_DrawRunResources [] [])) [.t 14]⟩,
      ⟨some 13, none, .mv (.t 15)⟩,
      ⟨some 16, none, .ext 0 (.t 13)⟩,
      ⟨some 17, none, .ext 1 (.t 13)⟩,
      ⟨some 18, none, .ext 2 (.t 13)⟩,
      ⟨some 3, none, .mv (.t 16)⟩,
      ⟨some 4, none, .mv (.t 17)⟩,
      ⟨some 5, none, .mv (.t 18)⟩])
    (.seq (.ops [⟨some 19, none, .mv (.t 3)⟩,
      ⟨some 20, none, .mv (.t 4)⟩,
      ⟨some 21, none, .mv (.t 5)⟩,
      ⟨some 22, none, .call (.k (.fn n_impl_RunResources [] [])) [.t 19, .t 20, .t 21]⟩,
      ⟨some 6, none, .alloc ty_impl_Schedule [.sn, .sn]⟩,
      ⟨none, none, .st 2 (.t 6) (.t 22)⟩])
    (.seq (.seq (.plan [0, 1, 2, 3] [⟨some 23, none, .ldn 2 (.t 6)⟩,
      ⟨some 24, none, .mv (.t 3)⟩,
      ⟨some 25, none, .mv (.t 4)⟩,
      ⟨some 26, none, .mv (.t 5)⟩]
      (.one 4 ⟨some 27, none, .call (.k (.fn n_spec_RunResources [] [])) [.t 24, .t 25, .t 26]⟩ [(23, some 2, 6)] []
        []
      (.one 5 ⟨some 28, none, .call (.k (.fn n_laws_sameSchedule [] [])) [.t 23, .t 27]⟩ [] [6]
        [⟨some 29, none, .not (.t 28)⟩]
      .fin)))
    (.cond (.t 29) (.seq (.ops [⟨some 2, none, .mv (.k (.b false))⟩])
    (.ret))
    (.skip)))
    (.seq (.seq (.ops [⟨some 30, none, .fa 0 (.t 6)⟩,
      ⟨some 31, none, .ld (.t 30)⟩,
      ⟨some 32, none, .len (.t 31)⟩,
      ⟨some 33, none, .bin .neq (.t 32) (.k (.i .i64 120))⟩])
    (.cond (.t 33) (.seq (.ops [⟨some 34, none, .call (.k (.fn n_laws_alive [] [])) []⟩,
      ⟨some 2, none, .mv (.t 34)⟩])
    (.ret))
    (.skip)))
    (.seq (.seq (.ops [⟨some 7, none, .mv (.k (.i .i64 0))⟩])
    (.block 0 (.loop l1_laws_FnResourcesDone)))
    (.seq (.seq (.ops [⟨some 8, none, .mv (.k (.i .i64 0))⟩])
    (.block 2 (.loop l0_laws_FnResourcesDone)))
    (.seq (.ops [⟨some 2, none, .mv (.k (.b true))⟩])
    (.ret)))))))))
theorem k_laws_FnResourcesDone : chkF Try.prog Try.f11 123 c_laws_FnResourcesDone [.t 2] = true := by kernel_rfl
theorem call_laws_FnResourcesDone {args : List AV} {σ : List AB} {K : AV → List AB → Prop} (hn : args.length ≤ 123) (hw : wpC Try.prog σ.length 123 c_laws_FnResourcesDone (retP σ.length [.t 2] K) ⟨initT 0 args, σ⟩) : CallWp Try.prog n_laws_FnResourcesDone args σ K := call_fn mixed Try.func11 k_laws_FnResourcesDone hn hw

-- loop.example/deadlinescheduler/laws.FnResourcesBlocked
-- region 5: a plan with 1 orders
-- region 21 draws, 23 of 23 first
-- l2_laws_FnResourcesBlocked: live at the head: 4 5 6 7 8 83 84 85 86 87 88 89 90 91 92 93 94 95 96 97
-- l1_laws_FnResourcesBlocked: live at the head: 5 6 7 9 83 84 85 86 87 88 89 90 91 92 93 94 95 96 97
-- l0_laws_FnResourcesBlocked: live at the head: 5 6 7 9 10 11 83 84 85 86 87 88 89 90 91 92 93 94 95 96 97
def l0_laws_FnResourcesBlocked : LC := .seq (.seq (.ops [⟨some 67, none, .mv (.t 11)⟩,
      ⟨some 68, none, .fa 1 (.t 6)⟩,
      ⟨some 69, none, .ld (.t 68)⟩,
      ⟨some 70, none, .mv (.t 9)⟩,
      ⟨some 71, none, .ia 1 (.t 69) (.t 70)⟩,
      ⟨some 72, none, .ld (.t 71)⟩,
      ⟨some 73, none, .bin .lss (.t 67) (.t 72)⟩])
    (.cond (.t 73) (.skip)
    (.exit 4)))
    (.seq (.block 5 (.seq (.draw 23 [⟨some 76, none, .fa 0 (.t 6)⟩,
      ⟨some 77, none, .ld (.t 76)⟩,
      ⟨some 78, none, .mv (.t 11)⟩,
      ⟨some 79, none, .ia 1 (.t 77) (.t 78)⟩,
      ⟨some 80, none, .ld (.t 79)⟩,
      ⟨some 81, none, .bin .geq (.t 80) (.k (.i .i64 0))⟩,
      ⟨some 82, none, .mv (.t 81)⟩,
      ⟨some 83, (some (82, true)), .mv (.t 5)⟩,
      ⟨some 84, (some (82, true)), .fa 0 (.t 6)⟩,
      ⟨some 85, (some (82, true)), .ld (.t 84)⟩,
      ⟨some 86, (some (82, true)), .mv (.t 11)⟩,
      ⟨some 87, (some (82, true)), .ia 1 (.t 85) (.t 86)⟩,
      ⟨some 88, (some (82, true)), .ld (.t 87)⟩,
      ⟨some 89, (some (82, true)), .ia 4 (.t 83) (.t 88)⟩,
      ⟨some 90, (some (82, true)), .fa 2 (.t 89)⟩,
      ⟨some 91, (some (82, true)), .ld (.t 90)⟩,
      ⟨some 92, (some (82, true)), .mv (.t 5)⟩,
      ⟨some 93, (some (82, true)), .mv (.t 9)⟩,
      ⟨some 94, (some (82, true)), .ia 4 (.t 92) (.t 93)⟩,
      ⟨some 95, (some (82, true)), .fa 2 (.t 94)⟩,
      ⟨some 96, (some (82, true)), .ld (.t 95)⟩,
      ⟨some 97, (some (82, true)), .bin .gtr (.t 91) (.t 96)⟩,
      ⟨some 98, none, .pick (.t 82) (.t 97) (.k (.b false))⟩])
    (.cond (.t 98) (.ops [⟨some 99, none, .mv (.t 10)⟩,
      ⟨some 100, none, .bin .add (.t 99) (.k (.i .i64 1))⟩,
      ⟨some 10, none, .mv (.t 100)⟩])
    (.skip))))
    (.ops [⟨some 74, none, .mv (.t 11)⟩,
      ⟨some 75, none, .bin .add (.t 74) (.k (.i .i64 1))⟩,
      ⟨some 11, none, .mv (.t 75)⟩]))
def l1_laws_FnResourcesBlocked : LC := .seq (.seq (.ops [⟨some 56, none, .mv (.t 9)⟩,
      ⟨some 57, none, .mv (.t 5)⟩,
      ⟨some 58, none, .len (.t 57)⟩,
      ⟨some 59, none, .bin .lss (.t 56) (.t 58)⟩])
    (.cond (.t 59) (.skip)
    (.exit 2)))
    (.seq (.block 3 (.seq (.ops [⟨some 10, none, .mv (.k (.i .i64 0))⟩])
    (.seq (.seq (.ops [⟨some 62, none, .mv (.t 5)⟩,
      ⟨some 63, none, .mv (.t 9)⟩,
      ⟨some 64, none, .ia 4 (.t 62) (.t 63)⟩,
      ⟨some 65, none, .fa 1 (.t 64)⟩,
      ⟨some 66, none, .ld (.t 65)⟩,
      ⟨some 11, none, .mv (.t 66)⟩])
    (.block 4 (.loop l0_laws_FnResourcesBlocked)))
    (.seq (.ops [⟨some 101, none, .mv (.t 10)⟩,
      ⟨some 102, none, .mv (.t 7)⟩,
      ⟨some 103, none, .bin .gtr (.t 101) (.t 102)⟩])
    (.cond (.t 103) (.seq (.ops [⟨some 2, none, .mv (.k (.b false))⟩])
    (.ret))
    (.skip))))))
    (.ops [⟨some 60, none, .mv (.t 9)⟩,
      ⟨some 61, none, .bin .add (.t 60) (.k (.i .i64 1))⟩,
      ⟨some 9, none, .mv (.t 61)⟩]))
def l2_laws_FnResourcesBlocked : LC := .seq (.seq (.ops [⟨some 43, none, .mv (.t 8)⟩,
      ⟨some 44, none, .mv (.t 4)⟩,
      ⟨some 45, none, .len (.t 44)⟩,
      ⟨some 46, none, .bin .lss (.t 43) (.t 45)⟩])
    (.cond (.t 46) (.skip)
    (.exit 0)))
    (.seq (.block 1 (.ops [⟨some 49, none, .mv (.t 7)⟩,
      ⟨some 50, none, .mv (.t 4)⟩,
      ⟨some 51, none, .mv (.t 8)⟩,
      ⟨some 52, none, .ia 3 (.t 50) (.t 51)⟩,
      ⟨some 53, none, .fa 1 (.t 52)⟩,
      ⟨some 54, none, .ld (.t 53)⟩,
      ⟨some 55, none, .mx (.t 49) (.t 54)⟩,
      ⟨some 7, none, .mv (.t 55)⟩]))
    (.ops [⟨some 47, none, .mv (.t 8)⟩,
      ⟨some 48, none, .bin .add (.t 47) (.k (.i .i64 1))⟩,
      ⟨some 8, none, .mv (.t 48)⟩]))
def c_laws_FnResourcesBlocked : LC := .seq (.ops [⟨some 2, none, .mv (.k (.b false))⟩])
    (.seq (.seq (.ops [⟨some 12, none, .mv (.t 0)⟩,
      ⟨some 13, none, .len (.t 12)⟩,
      ⟨some 14, none, .bin .gtr (.t 13) (.k (.i .i64 1048576))⟩])
    (.cond (.t 14) (.seq (.ops [⟨some 2, none, .mv (.k (.b true))⟩])
    (.ret))
    (.skip)))
    (.seq (.ops [⟨some 16, none, .mv (.t 0)⟩,
      ⟨some 17, none, .call (.k (.fn n_spec_DrawRunResources [] [])) [.t 16]⟩,
      ⟨some 15, none, .mv (.t 17)⟩,
      ⟨some 18, none, .ext 0 (.t 15)⟩,
      ⟨some 19, none, .ext 1 (.t 15)⟩,
      ⟨some 20, none, .ext 2 (.t 15)⟩,
      ⟨some 3, none, .mv (.t 18)⟩,
      ⟨some 4, none, .mv (.t 19)⟩,
      ⟨some 5, none, .mv (.t 20)⟩])
    (.seq (.ops [⟨some 21, none, .mv (.t 3)⟩,
      ⟨some 22, none, .mv (.t 4)⟩,
      ⟨some 23, none, .mv (.t 5)⟩,
      ⟨some 24, none, .call (.k (.fn n_impl_RunResources [] [])) [.t 21, .t 22, .t 23]⟩,
      ⟨some 6, none, .alloc ty_impl_Schedule [.sn, .sn]⟩,
      ⟨none, none, .st 2 (.t 6) (.t 24)⟩])
    (.seq (.seq (.plan [0, 1, 2, 3] [⟨some 25, none, .ldn 2 (.t 6)⟩,
      ⟨some 26, none, .mv (.t 3)⟩,
      ⟨some 27, none, .mv (.t 4)⟩,
      ⟨some 28, none, .mv (.t 5)⟩]
      (.one 4 ⟨some 29, none, .call (.k (.fn n_spec_RunResources [] [])) [.t 26, .t 27, .t 28]⟩ [(25, some 2, 6)] []
        []
      (.one 5 ⟨some 30, none, .call (.k (.fn n_laws_sameSchedule [] [])) [.t 25, .t 29]⟩ [] [6]
        [⟨some 31, none, .not (.t 30)⟩]
      .fin)))
    (.cond (.t 31) (.seq (.ops [⟨some 2, none, .mv (.k (.b false))⟩])
    (.ret))
    (.skip)))
    (.seq (.seq (.ops [⟨some 32, none, .fa 0 (.t 6)⟩,
      ⟨some 33, none, .ld (.t 32)⟩,
      ⟨some 34, none, .len (.t 33)⟩,
      ⟨some 35, none, .bin .neq (.t 34) (.k (.i .i64 120))⟩,
      ⟨some 36, none, .mv (.t 35)⟩,
      ⟨some 37, (some (36, false)), .mv (.t 3)⟩,
      ⟨some 38, (some (36, false)), .mv (.t 4)⟩,
      ⟨some 39, (some (36, false)), .call (.k (.fn n_impl_ResourcesFeasible [] [])) [.t 37, .t 38]⟩,
      ⟨some 40, (some (36, false)), .not (.t 39)⟩,
      ⟨some 41, none, .pick (.t 36) (.k (.b true)) (.t 40)⟩])
    (.cond (.t 41) (.seq (.ops [⟨some 42, none, .call (.k (.fn n_laws_alive [] [])) []⟩,
      ⟨some 2, none, .mv (.t 42)⟩])
    (.ret))
    (.skip)))
    (.seq (.ops [⟨some 7, none, .mv (.k (.i .i64 0))⟩])
    (.seq (.seq (.ops [⟨some 8, none, .mv (.k (.i .i64 0))⟩])
    (.block 0 (.loop l2_laws_FnResourcesBlocked)))
    (.seq (.seq (.ops [⟨some 9, none, .mv (.k (.i .i64 0))⟩])
    (.block 2 (.loop l1_laws_FnResourcesBlocked)))
    (.seq (.ops [⟨some 2, none, .mv (.k (.b true))⟩])
    (.ret))))))))))
theorem k_laws_FnResourcesBlocked : chkF Try.prog Try.f12 104 c_laws_FnResourcesBlocked [.t 2] = true := by kernel_rfl
theorem call_laws_FnResourcesBlocked {args : List AV} {σ : List AB} {K : AV → List AB → Prop} (hn : args.length ≤ 104) (hw : wpC Try.prog σ.length 104 c_laws_FnResourcesBlocked (retP σ.length [.t 2] K) ⟨initT 0 args, σ⟩) : CallWp Try.prog n_laws_FnResourcesBlocked args σ K := call_fn mixed Try.func12 k_laws_FnResourcesBlocked hn hw

-- loop.example/deadlinescheduler/laws.FnResourcesSafe
-- region 5: a plan with 1 orders
def c_laws_FnResourcesSafe : LC := .seq (.ops [⟨some 2, none, .mv (.k (.b false))⟩])
    (.seq (.seq (.ops [⟨some 7, none, .mv (.t 0)⟩,
      ⟨some 8, none, .len (.t 7)⟩,
      ⟨some 9, none, .bin .gtr (.t 8) (.k (.i .i64 1048576))⟩])
    (.cond (.t 9) (.seq (.ops [⟨some 2, none, .mv (.k (.b true))⟩])
    (.ret))
    (.skip)))
    (.seq (.ops [⟨some 11, none, .mv (.t 0)⟩,
      ⟨some 12, none, .call (.k (.fn n_spec_DrawRunResources [] [])) [.t 11]⟩,
      ⟨some 10, none, .mv (.t 12)⟩,
      ⟨some 13, none, .ext 0 (.t 10)⟩,
      ⟨some 14, none, .ext 1 (.t 10)⟩,
      ⟨some 15, none, .ext 2 (.t 10)⟩,
      ⟨some 3, none, .mv (.t 13)⟩,
      ⟨some 4, none, .mv (.t 14)⟩,
      ⟨some 5, none, .mv (.t 15)⟩])
    (.seq (.ops [⟨some 16, none, .mv (.t 3)⟩,
      ⟨some 17, none, .mv (.t 4)⟩,
      ⟨some 18, none, .mv (.t 5)⟩,
      ⟨some 19, none, .call (.k (.fn n_impl_RunResources [] [])) [.t 16, .t 17, .t 18]⟩,
      ⟨some 6, none, .alloc ty_impl_Schedule [.sn, .sn]⟩,
      ⟨none, none, .st 2 (.t 6) (.t 19)⟩])
    (.seq (.seq (.plan [0, 1, 2, 3] [⟨some 20, none, .ldn 2 (.t 6)⟩,
      ⟨some 21, none, .mv (.t 3)⟩,
      ⟨some 22, none, .mv (.t 4)⟩,
      ⟨some 23, none, .mv (.t 5)⟩]
      (.one 4 ⟨some 24, none, .call (.k (.fn n_spec_RunResources [] [])) [.t 21, .t 22, .t 23]⟩ [(20, some 2, 6)] []
        []
      (.one 5 ⟨some 25, none, .call (.k (.fn n_laws_sameSchedule [] [])) [.t 20, .t 24]⟩ [] [6]
        [⟨some 26, none, .not (.t 25)⟩]
      .fin)))
    (.cond (.t 26) (.seq (.ops [⟨some 2, none, .mv (.k (.b false))⟩])
    (.ret))
    (.skip)))
    (.seq (.seq (.ops [⟨some 27, none, .mv (.t 3)⟩,
      ⟨some 28, none, .mv (.t 5)⟩,
      ⟨some 29, none, .call (.k (.fn n_spec_JobsLegal [] [])) [.t 27, .t 28]⟩,
      ⟨some 30, none, .not (.t 29)⟩,
      ⟨some 31, none, .mv (.t 30)⟩,
      ⟨some 32, (some (31, false)), .mv (.t 3)⟩,
      ⟨some 33, (some (31, false)), .mv (.t 4)⟩,
      ⟨some 34, (some (31, false)), .call (.k (.fn n_impl_ResourcesFeasible [] [])) [.t 32, .t 33]⟩,
      ⟨some 35, (some (31, false)), .not (.t 34)⟩,
      ⟨some 36, none, .pick (.t 31) (.k (.b true)) (.t 35)⟩])
    (.cond (.t 36) (.seq (.ops [⟨some 37, none, .call (.k (.fn n_laws_alive [] [])) []⟩,
      ⟨some 2, none, .mv (.t 37)⟩])
    (.ret))
    (.skip)))
    (.seq (.ops [⟨some 38, none, .mv (.t 5)⟩,
      ⟨some 39, none, .ldn 2 (.t 6)⟩,
      ⟨some 40, none, .call (.k (.fn n_impl_Missed [] [])) [.t 38, .t 39]⟩,
      ⟨some 41, none, .len (.t 40)⟩,
      ⟨some 42, none, .bin .eql (.t 41) (.k (.i .i64 0))⟩,
      ⟨some 43, none, .mv (.t 42)⟩,
      ⟨some 44, (some (43, true)), .fa 0 (.t 6)⟩,
      ⟨some 45, (some (43, true)), .ld (.t 44)⟩,
      ⟨some 46, (some (43, true)), .len (.t 45)⟩,
      ⟨some 47, (some (43, true)), .bin .eql (.t 46) (.k (.i .i64 120))⟩,
      ⟨some 48, none, .pick (.t 43) (.t 47) (.k (.b false))⟩,
      ⟨some 2, none, .mv (.t 48)⟩])
    (.ret)))))))
theorem k_laws_FnResourcesSafe : chkF Try.prog Try.f13 49 c_laws_FnResourcesSafe [.t 2] = true := by kernel_rfl
theorem call_laws_FnResourcesSafe {args : List AV} {σ : List AB} {K : AV → List AB → Prop} (hn : args.length ≤ 49) (hw : wpC Try.prog σ.length 49 c_laws_FnResourcesSafe (retP σ.length [.t 2] K) ⟨initT 0 args, σ⟩) : CallWp Try.prog n_laws_FnResourcesSafe args σ K := call_fn mixed Try.func13 k_laws_FnResourcesSafe hn hw

-- loop.example/deadlinescheduler/spec.DrawRunResources
def c_spec_DrawRunResources : LC := .seq (.ops [⟨some 2, none, .mv (.k (.sn))⟩,
      ⟨some 3, none, .mv (.k (.sn))⟩,
      ⟨some 4, none, .mv (.k (.sn))⟩])
    (.seq (.ops [⟨some 8, none, .mv (.t 0)⟩,
      ⟨some 9, none, .call (.k (.fn n_spec_l20Open [] [])) [.t 8]⟩,
      ⟨some 5, none, .mv (.t 9)⟩])
    (.seq (.ops [⟨some 10, none, .mv (.t 5)⟩,
      ⟨some 11, none, .call (.k (.fn n_spec_l20Set [] [])) [.t 10, .k (.i .i64 24)]⟩,
      ⟨some 6, none, .mv (.t 11)⟩])
    (.seq (.ops [⟨some 12, none, .mv (.t 5)⟩,
      ⟨some 13, none, .mv (.t 6)⟩,
      ⟨some 14, none, .call (.k (.fn n_spec_l20Sections [] [])) [.t 12, .t 13, .k (.i .i64 16)]⟩,
      ⟨some 7, none, .mv (.t 14)⟩])
    (.seq (.seq (.ops [⟨some 15, none, .mv (.t 6)⟩,
      ⟨some 16, none, .call (.k (.fn n_spec_SetValid [] [])) [.t 15]⟩,
      ⟨some 17, none, .not (.t 16)⟩])
    (.cond (.t 17) (.seq (.ops [⟨some 18, none, .mv (.t 6)⟩,
      ⟨some 19, none, .mv (.t 7)⟩,
      ⟨some 20, none, .bsl ty_impl_Job [.i .i64 0, .i .i64 0, .i .i64 0, .i .i64 0] 0 []⟩,
      ⟨some 2, none, .mv (.t 18)⟩,
      ⟨some 3, none, .mv (.t 19)⟩,
      ⟨some 4, none, .mv (.t 20)⟩])
    (.ret))
    (.skip)))
    (.seq (.ops [⟨some 21, none, .mv (.t 6)⟩,
      ⟨some 22, none, .mv (.t 7)⟩,
      ⟨some 23, none, .mv (.t 5)⟩,
      ⟨some 24, none, .mv (.t 6)⟩,
      ⟨some 25, none, .call (.k (.fn n_spec_l20Jobs [] [])) [.t 23, .t 24, .k (.i .i64 16)]⟩,
      ⟨some 2, none, .mv (.t 21)⟩,
      ⟨some 3, none, .mv (.t 22)⟩,
      ⟨some 4, none, .mv (.t 25)⟩])
    (.ret))))))
theorem k_spec_DrawRunResources : chkF Try.prog Try.f14 26 c_spec_DrawRunResources [.t 2, .t 3, .t 4] = true := by kernel_rfl
theorem call_spec_DrawRunResources {args : List AV} {σ : List AB} {K : AV → List AB → Prop} (hn : args.length ≤ 26) (hw : wpC Try.prog σ.length 26 c_spec_DrawRunResources (retP σ.length [.t 2, .t 3, .t 4] K) ⟨initT 0 args, σ⟩) : CallWp Try.prog n_spec_DrawRunResources args σ K := call_fn mixed Try.func14 k_spec_DrawRunResources hn hw

-- loop.example/deadlinescheduler/impl.RunResources
def c_impl_RunResources : LC := .seq (.ops [⟨some 3, none, .box ty_sl_impl_Task (.t 0)⟩,
      ⟨some 4, none, .box ty_sl_impl_Section (.t 1)⟩,
      ⟨some 5, none, .box ty_sl_impl_Job (.t 2)⟩,
      ⟨some 6, none, .alloc ty_impl_Schedule [.sn, .sn]⟩])
    (.seq (.seq (.ops [⟨some 8, none, .ld (.t 3)⟩,
      ⟨some 9, none, .ld (.t 4)⟩,
      ⟨some 10, none, .call (.k (.fn n_impl_SectionsValid [] [])) [.t 8, .t 9]⟩,
      ⟨some 11, none, .not (.t 10)⟩,
      ⟨some 12, none, .mv (.t 11)⟩,
      ⟨some 13, (some (12, false)), .ld (.t 3)⟩,
      ⟨some 14, (some (12, false)), .ld (.t 5)⟩,
      ⟨some 15, (some (12, false)), .call (.k (.fn n_impl_JobsLegal [] [])) [.t 13, .t 14]⟩,
      ⟨some 16, (some (12, false)), .not (.t 15)⟩,
      ⟨some 17, none, .pick (.t 12) (.k (.b true)) (.t 16)⟩])
    (.cond (.t 17) (.seq (.ops [⟨some 18, none, .build [.sn, .sn] []⟩,
      ⟨none, none, .st 2 (.t 6) (.t 18)⟩])
    (.ret))
    (.skip)))
    (.seq (.ops [⟨some 19, none, .ld (.t 3)⟩,
      ⟨some 20, none, .ld (.t 4)⟩,
      ⟨some 21, none, .call (.k (.fn n_impl_ceilings [] [])) [.t 19, .t 20]⟩,
      ⟨some 7, none, .alloc ty_sl_int [.sn]⟩,
      ⟨none, none, .st 1 (.t 7) (.t 21)⟩])
    (.seq (.ops [⟨some 22, none, .ld (.t 5)⟩,
      ⟨some 23, none, .mkf n_impl_RunResources_1 [] [.t 5, .t 4, .t 7, .t 3]⟩,
      ⟨some 24, none, .call (.k (.fn n_impl_simulate [] [])) [.t 22, .t 23]⟩,
      ⟨none, none, .st 2 (.t 6) (.t 24)⟩])
    (.ret))))
theorem k_impl_RunResources : chkF Try.prog Try.f15 25 c_impl_RunResources [.c 6 (some 2)] = true := by kernel_rfl
theorem call_impl_RunResources {args : List AV} {σ : List AB} {K : AV → List AB → Prop} (hn : args.length ≤ 25) (hw : wpC Try.prog σ.length 25 c_impl_RunResources (retP σ.length [.c 6 (some 2)] K) ⟨initT 0 args, σ⟩) : CallWp Try.prog n_impl_RunResources args σ K := call_fn mixed Try.func15 k_impl_RunResources hn hw

-- loop.example/deadlinescheduler/laws.sameSchedule
def c_laws_sameSchedule : LC := .seq (.ops [⟨some 2, none, .box ty_impl_Schedule (.t 0)⟩,
      ⟨some 3, none, .box ty_impl_Schedule (.t 1)⟩,
      ⟨some 4, none, .mv (.k (.b false))⟩])
    (.seq (.ops [⟨some 5, none, .fa 0 (.t 2)⟩,
      ⟨some 6, none, .ld (.t 5)⟩,
      ⟨some 7, none, .fa 0 (.t 3)⟩,
      ⟨some 8, none, .ld (.t 7)⟩,
      ⟨some 9, none, .call (.k (.fn n_laws_sameInts [] [])) [.t 6, .t 8]⟩,
      ⟨some 10, none, .mv (.t 9)⟩,
      ⟨some 11, (some (10, true)), .fa 1 (.t 2)⟩,
      ⟨some 12, (some (10, true)), .ld (.t 11)⟩,
      ⟨some 13, (some (10, true)), .fa 1 (.t 3)⟩,
      ⟨some 14, (some (10, true)), .ld (.t 13)⟩,
      ⟨some 15, (some (10, true)), .call (.k (.fn n_laws_sameInts [] [])) [.t 12, .t 14]⟩,
      ⟨some 16, none, .pick (.t 10) (.t 15) (.k (.b false))⟩,
      ⟨some 4, none, .mv (.t 16)⟩])
    (.ret))
theorem k_laws_sameSchedule : chkF Try.prog Try.f16 17 c_laws_sameSchedule [.t 4] = true := by kernel_rfl
theorem call_laws_sameSchedule {args : List AV} {σ : List AB} {K : AV → List AB → Prop} (hn : args.length ≤ 17) (hw : wpC Try.prog σ.length 17 c_laws_sameSchedule (retP σ.length [.t 4] K) ⟨initT 0 args, σ⟩) : CallWp Try.prog n_laws_sameSchedule args σ K := call_fn mixed Try.func16 k_laws_sameSchedule hn hw
theorem callC_laws_sameSchedule {args : List AV} {σ : List AB} {K : AV → List AB → Prop} (hn : args.length ≤ 17) (hw : Closed σ → args.all (below1 σ.length) = true → wpC Try.prog σ.length 17 c_laws_sameSchedule (retP σ.length [.t 4] K) ⟨initT 0 args, σ⟩) : CallWp Try.prog n_laws_sameSchedule args σ K := call_fnC mixed Try.func16 k_laws_sameSchedule hn hw

-- loop.example/deadlinescheduler/spec.RunResources
-- region 16 draws, 10 of 10 first
-- l1_spec_RunResources: live at the head: 0 1 2 6 7 8 9
-- l0_spec_RunResources: live at the head: 0 1 2 6 7 8 10
def l0_spec_RunResources : LC := .seq (.seq (.ops [⟨some 38, none, .mv (.t 10)⟩,
      ⟨some 39, none, .bin .lss (.t 38) (.k (.i .i64 120))⟩])
    (.cond (.t 39) (.skip)
    (.exit 2)))
    (.seq (.block 3 (.seq (.ops [⟨some 42, none, .mv (.t 0)⟩,
      ⟨some 43, none, .mv (.t 2)⟩,
      ⟨some 44, none, .mv (.t 8)⟩,
      ⟨some 45, none, .mv (.t 0)⟩,
      ⟨some 46, none, .mv (.t 1)⟩,
      ⟨some 47, none, .mv (.t 2)⟩,
      ⟨some 48, none, .mv (.t 8)⟩,
      ⟨some 49, none, .call (.k (.fn n_spec_l6System [] [])) [.t 45, .t 46, .t 47, .t 48]⟩,
      ⟨some 50, none, .mv (.t 10)⟩,
      ⟨some 51, none, .call (.k (.fn n_spec_l6Best [] [])) [.t 42, .t 43, .t 44, .t 49, .t 50]⟩,
      ⟨some 11, none, .mv (.t 51)⟩])
    (.seq (.ops [⟨some 52, none, .fa 0 (.t 7)⟩,
      ⟨some 53, none, .ld (.t 52)⟩,
      ⟨some 54, none, .mv (.t 11)⟩,
      ⟨some 55, none, .bsl ty_int [.i .i64 0] 1 [(0, 1, .t 54)]⟩,
      ⟨some 56, none, .app ty_int 1 8 (.t 53) (.t 55)⟩,
      ⟨some 57, none, .fa 0 (.t 7)⟩,
      ⟨none, none, .st 1 (.t 57) (.t 56)⟩])
    (.seq (.ops [⟨some 58, none, .mv (.t 11)⟩,
      ⟨some 59, none, .bin .geq (.t 58) (.k (.i .i64 0))⟩])
    (.cond (.t 59) (.seq (.ops [⟨some 60, none, .mv (.t 8)⟩,
      ⟨some 61, none, .mv (.t 11)⟩,
      ⟨some 62, none, .mv (.t 8)⟩,
      ⟨some 63, none, .mv (.t 11)⟩,
      ⟨some 64, none, .ia 1 (.t 62) (.t 63)⟩,
      ⟨some 65, none, .ld (.t 64)⟩,
      ⟨some 66, none, .bin .add (.t 65) (.k (.i .i64 1))⟩,
      ⟨some 67, none, .ia 1 (.t 60) (.t 61)⟩,
      ⟨none, none, .st 1 (.t 67) (.t 66)⟩])
    (.seq (.draw 10 [⟨some 68, none, .mv (.t 8)⟩,
      ⟨some 69, none, .mv (.t 11)⟩,
      ⟨some 70, none, .ia 1 (.t 68) (.t 69)⟩,
      ⟨some 71, none, .ld (.t 70)⟩,
      ⟨some 72, none, .mv (.t 2)⟩,
      ⟨some 73, none, .mv (.t 11)⟩,
      ⟨some 74, none, .ia 4 (.t 72) (.t 73)⟩,
      ⟨some 75, none, .fa 3 (.t 74)⟩,
      ⟨some 76, none, .ld (.t 75)⟩,
      ⟨some 77, none, .bin .eql (.t 71) (.t 76)⟩])
    (.cond (.t 77) (.ops [⟨some 78, none, .fa 1 (.t 7)⟩,
      ⟨some 79, none, .ld (.t 78)⟩,
      ⟨some 80, none, .mv (.t 11)⟩,
      ⟨some 81, none, .mv (.t 10)⟩,
      ⟨some 82, none, .bin .add (.t 81) (.k (.i .i64 1))⟩,
      ⟨some 83, none, .ia 1 (.t 79) (.t 80)⟩,
      ⟨none, none, .st 1 (.t 83) (.t 82)⟩])
    (.skip))))
    (.skip))))))
    (.ops [⟨some 40, none, .mv (.t 10)⟩,
      ⟨some 41, none, .bin .add (.t 40) (.k (.i .i64 1))⟩,
      ⟨some 10, none, .mv (.t 41)⟩]))
def l1_spec_RunResources : LC := .seq (.seq (.ops [⟨some 27, none, .mv (.t 9)⟩,
      ⟨some 28, none, .mv (.t 2)⟩,
      ⟨some 29, none, .len (.t 28)⟩,
      ⟨some 30, none, .bin .lss (.t 27) (.t 29)⟩])
    (.cond (.t 30) (.skip)
    (.exit 0)))
    (.seq (.block 1 (.ops [⟨some 33, none, .fa 1 (.t 7)⟩,
      ⟨some 34, none, .ld (.t 33)⟩,
      ⟨some 35, none, .bsl ty_int [.i .i64 0] 1 [(0, 1, .k (.i .i64 (-1)))]⟩,
      ⟨some 36, none, .app ty_int 1 8 (.t 34) (.t 35)⟩,
      ⟨some 37, none, .fa 1 (.t 7)⟩,
      ⟨none, none, .st 1 (.t 37) (.t 36)⟩]))
    (.ops [⟨some 31, none, .mv (.t 9)⟩,
      ⟨some 32, none, .bin .add (.t 31) (.k (.i .i64 1))⟩,
      ⟨some 9, none, .mv (.t 32)⟩]))
def c_spec_RunResources : LC := .seq (.ops [⟨some 6, none, .alloc ty_impl_Schedule [.sn, .sn]⟩])
    (.seq (.seq (.ops [⟨some 12, none, .mv (.t 0)⟩,
      ⟨some 13, none, .mv (.t 1)⟩,
      ⟨some 14, none, .call (.k (.fn n_spec_SectionsValid [] [])) [.t 12, .t 13]⟩,
      ⟨some 15, none, .not (.t 14)⟩,
      ⟨some 16, none, .mv (.t 15)⟩,
      ⟨some 17, (some (16, false)), .mv (.t 0)⟩,
      ⟨some 18, (some (16, false)), .mv (.t 2)⟩,
      ⟨some 19, (some (16, false)), .call (.k (.fn n_spec_JobsLegal [] [])) [.t 17, .t 18]⟩,
      ⟨some 20, (some (16, false)), .not (.t 19)⟩,
      ⟨some 21, none, .pick (.t 16) (.k (.b true)) (.t 20)⟩])
    (.cond (.t 21) (.seq (.ops [⟨some 22, none, .build [.sn, .sn] []⟩,
      ⟨none, none, .st 2 (.t 6) (.t 22)⟩])
    (.ret))
    (.skip)))
    (.seq (.ops [⟨some 23, none, .build [.sn, .sn] []⟩,
      ⟨some 7, none, .alloc ty_impl_Schedule [.sn, .sn]⟩,
      ⟨none, none, .st 2 (.t 7) (.t 23)⟩])
    (.seq (.ops [⟨some 24, none, .mv (.t 2)⟩,
      ⟨some 25, none, .len (.t 24)⟩,
      ⟨some 26, none, .msl ty_int 8 [.i .i64 0] (.t 25)⟩,
      ⟨some 8, none, .mv (.t 26)⟩])
    (.seq (.seq (.ops [⟨some 9, none, .mv (.k (.i .i64 0))⟩])
    (.block 0 (.loop l1_spec_RunResources)))
    (.seq (.seq (.ops [⟨some 10, none, .mv (.k (.i .i64 0))⟩])
    (.block 2 (.loop l0_spec_RunResources)))
    (.seq (.ops [⟨some 84, none, .ldn 2 (.t 7)⟩,
      ⟨none, none, .st 2 (.t 6) (.t 84)⟩])
    (.ret)))))))
theorem k_spec_RunResources : chkF Try.prog Try.f17 85 c_spec_RunResources [.c 6 (some 2)] = true := by kernel_rfl
theorem call_spec_RunResources {args : List AV} {σ : List AB} {K : AV → List AB → Prop} (hn : args.length ≤ 85) (hw : wpC Try.prog σ.length 85 c_spec_RunResources (retP σ.length [.c 6 (some 2)] K) ⟨initT 0 args, σ⟩) : CallWp Try.prog n_spec_RunResources args σ K := call_fn mixed Try.func17 k_spec_RunResources hn hw

-- loop.example/deadlinescheduler/laws.alive
def c_laws_alive : LC := .seq (.ops [⟨some 0, none, .mv (.k (.b false))⟩])
    (.seq (.ops [⟨some 1, none, .build [.i .i64 0, .i .i64 0, .i .i64 0] [(0, 1, .k (.i .i64 1)), (1, 1, .k (.i .i64 1)), (2, 1, .k (.i .i64 1))]⟩,
      ⟨some 2, none, .call (.k (.fn n_impl_TaskValid [] [])) [.t 1]⟩,
      ⟨some 0, none, .mv (.t 2)⟩])
    (.ret))
theorem k_laws_alive : chkF Try.prog Try.f18 3 c_laws_alive [.t 0] = true := by kernel_rfl
theorem call_laws_alive {args : List AV} {σ : List AB} {K : AV → List AB → Prop} (hn : args.length ≤ 3) (hw : wpC Try.prog σ.length 3 c_laws_alive (retP σ.length [.t 0] K) ⟨initT 0 args, σ⟩) : CallWp Try.prog n_laws_alive args σ K := call_fn mixed Try.func18 k_laws_alive hn hw

-- loop.example/deadlinescheduler/impl.RunEdf
def c_impl_RunEdf : LC := .seq (.ops [⟨some 4, none, .alloc ty_impl_Schedule [.sn, .sn]⟩])
    (.seq (.seq (.ops [⟨some 5, none, .mv (.t 0)⟩,
      ⟨some 6, none, .mv (.t 1)⟩,
      ⟨some 7, none, .call (.k (.fn n_impl_JobsLegal [] [])) [.t 5, .t 6]⟩,
      ⟨some 8, none, .not (.t 7)⟩])
    (.cond (.t 8) (.seq (.ops [⟨some 9, none, .build [.sn, .sn] []⟩,
      ⟨none, none, .st 2 (.t 4) (.t 9)⟩])
    (.ret))
    (.skip)))
    (.seq (.ops [⟨some 10, none, .mv (.t 1)⟩,
      ⟨some 11, none, .call (.k (.fn n_impl_simulate [] [])) [.t 10, .k (.fn n_impl_edf [] [])]⟩,
      ⟨none, none, .st 2 (.t 4) (.t 11)⟩])
    (.ret)))
theorem k_impl_RunEdf : chkF Try.prog Try.f19 12 c_impl_RunEdf [.c 4 (some 2)] = true := by kernel_rfl
theorem call_impl_RunEdf {args : List AV} {σ : List AB} {K : AV → List AB → Prop} (hn : args.length ≤ 12) (hw : wpC Try.prog σ.length 12 c_impl_RunEdf (retP σ.length [.c 4 (some 2)] K) ⟨initT 0 args, σ⟩) : CallWp Try.prog n_impl_RunEdf args σ K := call_fn mixed Try.func19 k_impl_RunEdf hn hw

-- loop.example/deadlinescheduler/impl.RunFixed
def c_impl_RunFixed : LC := .seq (.ops [⟨some 6, none, .alloc ty_impl_Schedule [.sn, .sn]⟩])
    (.seq (.seq (.ops [⟨some 7, none, .mv (.t 0)⟩,
      ⟨some 8, none, .mv (.t 1)⟩,
      ⟨some 9, none, .call (.k (.fn n_impl_OrderValid [] [])) [.t 7, .t 8]⟩,
      ⟨some 10, none, .not (.t 9)⟩,
      ⟨some 11, none, .mv (.t 10)⟩,
      ⟨some 12, (some (11, false)), .mv (.t 0)⟩,
      ⟨some 13, (some (11, false)), .mv (.t 2)⟩,
      ⟨some 14, (some (11, false)), .call (.k (.fn n_impl_JobsLegal [] [])) [.t 12, .t 13]⟩,
      ⟨some 15, (some (11, false)), .not (.t 14)⟩,
      ⟨some 16, none, .pick (.t 11) (.k (.b true)) (.t 15)⟩])
    (.cond (.t 16) (.seq (.ops [⟨some 17, none, .build [.sn, .sn] []⟩,
      ⟨none, none, .st 2 (.t 6) (.t 17)⟩])
    (.ret))
    (.skip)))
    (.seq (.ops [⟨some 18, none, .mv (.t 2)⟩,
      ⟨some 19, none, .mv (.t 1)⟩,
      ⟨some 20, none, .call (.k (.fn n_impl_fixed [] [])) [.t 19]⟩,
      ⟨some 21, none, .call (.k (.fn n_impl_simulate [] [])) [.t 18, .t 20]⟩,
      ⟨none, none, .st 2 (.t 6) (.t 21)⟩])
    (.ret)))
theorem k_impl_RunFixed : chkF Try.prog Try.f20 22 c_impl_RunFixed [.c 6 (some 2)] = true := by kernel_rfl
theorem call_impl_RunFixed {args : List AV} {σ : List AB} {K : AV → List AB → Prop} (hn : args.length ≤ 22) (hw : wpC Try.prog σ.length 22 c_impl_RunFixed (retP σ.length [.c 6 (some 2)] K) ⟨initT 0 args, σ⟩) : CallWp Try.prog n_impl_RunFixed args σ K := call_fn mixed Try.func20 k_impl_RunFixed hn hw

-- loop.example/deadlinescheduler/impl.DeadlineMonotonic
def c_impl_DeadlineMonotonic : LC := .seq (.ops [⟨some 1, none, .box ty_sl_impl_Task (.t 0)⟩,
      ⟨some 2, none, .mv (.k (.sn))⟩])
    (.seq (.seq (.ops [⟨some 4, none, .ld (.t 1)⟩,
      ⟨some 5, none, .call (.k (.fn n_impl_SetValid [] [])) [.t 4]⟩,
      ⟨some 6, none, .not (.t 5)⟩])
    (.cond (.t 6) (.seq (.ops [⟨some 2, none, .mv (.k (.sn))⟩])
    (.ret))
    (.skip)))
    (.seq (.ops [⟨some 7, none, .ld (.t 1)⟩,
      ⟨some 8, none, .len (.t 7)⟩,
      ⟨some 9, none, .call (.k (.fn n_impl_indices [] [])) [.t 8]⟩,
      ⟨some 3, none, .mv (.t 9)⟩])
    (.seq (.ops [⟨some 10, none, .mv (.t 3)⟩,
      ⟨some 11, none, .mkf n_impl_DeadlineMonotonic_1 [] [.t 1]⟩,
      ⟨some 12, none, .call (.k (.fn n_slices_SortStableFunc_int [] [])) [.t 10, .t 11]⟩])
    (.seq (.ops [⟨some 13, none, .mv (.t 3)⟩,
      ⟨some 2, none, .mv (.t 13)⟩])
    (.ret)))))
theorem k_impl_DeadlineMonotonic : chkF Try.prog Try.f21 14 c_impl_DeadlineMonotonic [.t 2] = true := by kernel_rfl
theorem call_impl_DeadlineMonotonic {args : List AV} {σ : List AB} {K : AV → List AB → Prop} (hn : args.length ≤ 14) (hw : wpC Try.prog σ.length 14 c_impl_DeadlineMonotonic (retP σ.length [.t 2] K) ⟨initT 0 args, σ⟩) : CallWp Try.prog n_impl_DeadlineMonotonic args σ K := call_fn mixed Try.func21 k_impl_DeadlineMonotonic hn hw

-- loop.example/deadlinescheduler/spec.DrawRunServers
-- a cut
-- l0_spec_DrawRunServers: live at the head: 6 7 8 9 10
def l0_spec_DrawRunServers : LC := .seq (.seq (.ops [⟨some 18, none, .mv (.t 10)⟩,
      ⟨some 19, none, .mv (.t 8)⟩,
      ⟨some 20, none, .len (.t 19)⟩,
      ⟨some 21, none, .bin .lss (.t 18) (.t 20)⟩])
    (.cond (.t 21) (.skip)
    (.exit 0)))
    (.seq (.block 1 (.ops [⟨some 24, none, .mv (.t 9)⟩,
      ⟨some 25, none, .mv (.t 6)⟩,
      ⟨some 26, none, .call (.k (.fn n_spec_l20Arrivals [] [])) [.t 25, .k (.i .i64 20)]⟩,
      ⟨some 27, none, .bsl ty_sl_impl_Arrival [.sn] 1 [(0, 1, .t 26)]⟩,
      ⟨some 28, none, .app ty_sl_impl_Arrival 1 24 (.t 24) (.t 27)⟩,
      ⟨some 9, none, .mv (.t 28)⟩]))
    (.ops [⟨some 22, none, .mv (.t 10)⟩,
      ⟨some 23, none, .bin .add (.t 22) (.k (.i .i64 1))⟩,
      ⟨some 10, none, .mv (.t 23)⟩]))
def c_spec_DrawRunServers : LC := .seq (.ops [⟨some 2, none, .mv (.k (.sn))⟩,
      ⟨some 3, none, .mv (.k (.sn))⟩,
      ⟨some 4, none, .mv (.k (.sn))⟩,
      ⟨some 5, none, .mv (.k (.sn))⟩])
    (.seq (.ops [⟨some 11, none, .mv (.t 0)⟩,
      ⟨some 12, none, .call (.k (.fn n_spec_l20Open [] [])) [.t 11]⟩,
      ⟨some 6, none, .mv (.t 12)⟩])
    (.seq (.ops [⟨some 13, none, .mv (.t 6)⟩,
      ⟨some 14, none, .call (.k (.fn n_spec_l20Set [] [])) [.t 13, .k (.i .i64 24)]⟩,
      ⟨some 7, none, .mv (.t 14)⟩])
    (.seq (.ops [⟨some 15, none, .mv (.t 6)⟩,
      ⟨some 16, none, .call (.k (.fn n_spec_l20Servers [] [])) [.t 15, .k (.i .i64 16)]⟩,
      ⟨some 8, none, .mv (.t 16)⟩])
    (.seq (.ops [⟨some 17, none, .bsl ty_sl_impl_Arrival [.sn] 0 []⟩,
      ⟨some 9, none, .mv (.t 17)⟩])
    (.seq (.seq (.ops [⟨some 10, none, .mv (.k (.i .i64 0))⟩])
    (.block 0 (.loop l0_spec_DrawRunServers)))
    (.join (.seq (.ops [⟨some 29, none, .mv (.t 6)⟩,
      ⟨some 30, none, .call (.k (.fn n_spec_l20Rd_odd [] [])) [.t 29, .k (.i .i64 16)]⟩])
    (.cond (.t 30) (.ops [⟨some 31, none, .mv (.t 9)⟩,
      ⟨some 32, none, .bsl ty_impl_Arrival [.i .i64 0, .i .i64 0] 0 []⟩,
      ⟨some 33, none, .bsl ty_sl_impl_Arrival [.sn] 1 [(0, 1, .t 32)]⟩,
      ⟨some 34, none, .app ty_sl_impl_Arrival 1 24 (.t 31) (.t 33)⟩,
      ⟨some 9, none, .mv (.t 34)⟩])
    (.skip)))
    (.seq (.seq (.ops [⟨some 35, none, .mv (.t 7)⟩,
      ⟨some 36, none, .call (.k (.fn n_spec_SetValid [] [])) [.t 35]⟩,
      ⟨some 37, none, .not (.t 36)⟩])
    (.cond (.t 37) (.seq (.ops [⟨some 38, none, .mv (.t 7)⟩,
      ⟨some 39, none, .bsl ty_impl_Job [.i .i64 0, .i .i64 0, .i .i64 0, .i .i64 0] 0 []⟩,
      ⟨some 40, none, .mv (.t 8)⟩,
      ⟨some 41, none, .mv (.t 9)⟩,
      ⟨some 2, none, .mv (.t 38)⟩,
      ⟨some 3, none, .mv (.t 39)⟩,
      ⟨some 4, none, .mv (.t 40)⟩,
      ⟨some 5, none, .mv (.t 41)⟩])
    (.ret))
    (.skip)))
    (.seq (.ops [⟨some 42, none, .mv (.t 7)⟩,
      ⟨some 43, none, .mv (.t 6)⟩,
      ⟨some 44, none, .mv (.t 7)⟩,
      ⟨some 45, none, .call (.k (.fn n_spec_l20Jobs [] [])) [.t 43, .t 44, .k (.i .i64 20)]⟩,
      ⟨some 46, none, .mv (.t 8)⟩,
      ⟨some 47, none, .mv (.t 9)⟩,
      ⟨some 2, none, .mv (.t 42)⟩,
      ⟨some 3, none, .mv (.t 45)⟩,
      ⟨some 4, none, .mv (.t 46)⟩,
      ⟨some 5, none, .mv (.t 47)⟩])
    (.ret)))))))))
theorem k_spec_DrawRunServers : chkF Try.prog Try.f22 48 c_spec_DrawRunServers [.t 2, .t 3, .t 4, .t 5] = true := by kernel_rfl
theorem call_spec_DrawRunServers {args : List AV} {σ : List AB} {K : AV → List AB → Prop} (hn : args.length ≤ 48) (hw : wpC Try.prog σ.length 48 c_spec_DrawRunServers (retP σ.length [.t 2, .t 3, .t 4, .t 5] K) ⟨initT 0 args, σ⟩) : CallWp Try.prog n_spec_DrawRunServers args σ K := call_fn mixed Try.func22 k_spec_DrawRunServers hn hw

-- loop.example/deadlinescheduler/impl.RunServers
-- region 3: a plan with 6 orders
-- region 8: a plan with 1 orders
-- region 9 draws, 9 of 11 first
-- a cut
-- l0_impl_RunServers: live at the head: 3 5 8 9 10 42 43 44
def l0_impl_RunServers : LC := .seq (.ops [⟨some 45, none, .bin .lss (.t 44) (.t 43)⟩])
    (.seq (.cond (.t 45) (.skip)
    (.exit 0))
    (.seq (.block 1 (.seq (.ops [⟨some 46, none, .mv (.t 44)⟩,
      ⟨some 47, none, .ia 2 (.t 42) (.t 44)⟩,
      ⟨some 48, none, .ldn 2 (.t 47)⟩,
      ⟨some 12, none, .alloc ty_impl_Server [.i .i64 0, .i .i64 0]⟩,
      ⟨some 11, none, .mv (.t 46)⟩,
      ⟨none, none, .st 2 (.t 12) (.t 48)⟩])
    (.seq (.plan [0, 1, 2, 3, 4, 5, 6, 7, 8, 9] [⟨some 49, none, .ld (.t 10)⟩,
      ⟨some 50, none, .mv (.t 11)⟩,
      ⟨some 51, none, .ldn 2 (.t 12)⟩,
      ⟨some 52, none, .fa 0 (.t 12)⟩,
      ⟨some 53, none, .ld (.t 52)⟩,
      ⟨some 54, none, .mv (.t 3)⟩,
      ⟨some 55, none, .mv (.t 11)⟩,
      ⟨some 56, none, .ia 1 (.t 54) (.t 55)⟩,
      ⟨some 57, none, .ld (.t 56)⟩,
      ⟨some 58, none, .build [.i .i64 0, .i .i64 0, .i .i64 0, .i .i64 0, .sn, .i .i64 0, .i .i64 0, .i .i64 0] [(0, 2, .t 51), (2, 1, .t 53), (4, 1, .t 57)]⟩]
      (.one 10 ⟨some 59, none, .box ty_impl_server (.t 58)⟩ [(49, none, 10), (51, some 2, 12), (53, none, 52), (57, none, 56)] [11]
        [⟨some 60, none, .ia 1 (.t 49) (.t 50)⟩]
      (.one 12 ⟨none, none, .st 1 (.t 60) (.t 59)⟩ [] []
        []
      .fin)))
    (.draw 9 [⟨some 61, none, .fa 3 (.t 9)⟩,
      ⟨some 62, none, .ld (.t 61)⟩,
      ⟨some 63, none, .mv (.t 11)⟩,
      ⟨some 64, none, .mv (.t 3)⟩,
      ⟨some 65, none, .mv (.t 11)⟩,
      ⟨some 66, none, .ia 1 (.t 64) (.t 65)⟩,
      ⟨some 67, none, .ld (.t 66)⟩,
      ⟨some 68, none, .len (.t 67)⟩,
      ⟨some 69, none, .call (.k (.fn n_impl_none [] [])) [.t 68]⟩,
      ⟨some 70, none, .ia 1 (.t 62) (.t 63)⟩,
      ⟨none, none, .st 1 (.t 70) (.t 69)⟩]))))
    (.ops [⟨some 71, none, .bin .add (.t 44) (.k (.i .i64 1))⟩,
      ⟨some 44, none, .mv (.t 71)⟩])))
def c_impl_RunServers : LC := .seq (.ops [⟨some 5, none, .box ty_sl_impl_Job (.t 1)⟩,
      ⟨some 8, none, .alloc ty_impl_ServerRun [.sn, .sn, .sn, .sn]⟩])
    (.seq (.seq (.ops [⟨some 13, none, .mv (.t 0)⟩,
      ⟨some 14, none, .ld (.t 5)⟩,
      ⟨some 15, none, .call (.k (.fn n_impl_JobsLegal [] [])) [.t 13, .t 14]⟩,
      ⟨some 16, none, .not (.t 15)⟩,
      ⟨some 17, none, .mv (.t 16)⟩,
      ⟨some 18, (some (17, false)), .mv (.t 2)⟩,
      ⟨some 19, (some (17, false)), .call (.k (.fn n_impl_ServersValid [] [])) [.t 18]⟩,
      ⟨some 20, (some (17, false)), .not (.t 19)⟩,
      ⟨some 21, none, .pick (.t 17) (.k (.b true)) (.t 20)⟩,
      ⟨some 22, none, .mv (.t 21)⟩,
      ⟨some 23, (some (22, false)), .mv (.t 3)⟩,
      ⟨some 24, (some (22, false)), .len (.t 23)⟩,
      ⟨some 25, (some (22, false)), .mv (.t 2)⟩,
      ⟨some 26, (some (22, false)), .len (.t 25)⟩,
      ⟨some 27, (some (22, false)), .bin .neq (.t 24) (.t 26)⟩,
      ⟨some 28, none, .pick (.t 22) (.k (.b true)) (.t 27)⟩,
      ⟨some 29, none, .mv (.t 28)⟩,
      ⟨some 30, (some (29, false)), .mv (.t 3)⟩,
      ⟨some 31, (some (29, false)), .call (.k (.fn n_slices_ContainsFunc_impl_Arrival_impl_Arrival [] [])) [.t 30, .k (.fn n_impl_RunServers_1 [] [])]⟩,
      ⟨some 32, none, .pick (.t 29) (.k (.b true)) (.t 31)⟩])
    (.cond (.t 32) (.seq (.ops [⟨some 33, none, .build [.sn, .sn, .sn, .sn] []⟩,
      ⟨none, none, .st 4 (.t 8) (.t 33)⟩])
    (.ret))
    (.skip)))
    (.join (.plan [1, 2] [⟨some 35, none, .mv (.t 2)⟩,
      ⟨some 36, none, .len (.t 35)⟩]
      (.alt (.one 0 ⟨some 34, none, .call (.k (.fn n_impl_none [] [])) [.k (.i .i64 120)]⟩ [] []
        []
      (.alt (.one 3 ⟨some 37, none, .msl ty_sl_int 24 [.sn] (.t 36)⟩ [] [4]
        [⟨some 38, none, .build [.sn, .sn, .sn, .sn] [(2, 1, .t 34), (3, 1, .t 37)]⟩]
      (.one 5 ⟨some 9, none, .alloc ty_impl_ServerRun [.sn, .sn, .sn, .sn]⟩ [] []
        []
      (.one 6 ⟨none, none, .st 4 (.t 9) (.t 38)⟩ [] []
        []
      .fin))) (.one 5 ⟨some 9, none, .alloc ty_impl_ServerRun [.sn, .sn, .sn, .sn]⟩ [] []
        []
      (.one 3 ⟨some 37, none, .msl ty_sl_int 24 [.sn] (.t 36)⟩ [] [4]
        [⟨some 38, none, .build [.sn, .sn, .sn, .sn] [(2, 1, .t 34), (3, 1, .t 37)]⟩]
      (.one 6 ⟨none, none, .st 4 (.t 9) (.t 38)⟩ [] []
        []
      .fin))))) (.alt (.one 3 ⟨some 37, none, .msl ty_sl_int 24 [.sn] (.t 36)⟩ [] []
        []
      (.alt (.one 0 ⟨some 34, none, .call (.k (.fn n_impl_none [] [])) [.k (.i .i64 120)]⟩ [] [4]
        [⟨some 38, none, .build [.sn, .sn, .sn, .sn] [(2, 1, .t 34), (3, 1, .t 37)]⟩]
      (.one 5 ⟨some 9, none, .alloc ty_impl_ServerRun [.sn, .sn, .sn, .sn]⟩ [] []
        []
      (.one 6 ⟨none, none, .st 4 (.t 9) (.t 38)⟩ [] []
        []
      .fin))) (.one 5 ⟨some 9, none, .alloc ty_impl_ServerRun [.sn, .sn, .sn, .sn]⟩ [] []
        []
      (.one 0 ⟨some 34, none, .call (.k (.fn n_impl_none [] [])) [.k (.i .i64 120)]⟩ [] [4]
        [⟨some 38, none, .build [.sn, .sn, .sn, .sn] [(2, 1, .t 34), (3, 1, .t 37)]⟩]
      (.one 6 ⟨none, none, .st 4 (.t 9) (.t 38)⟩ [] []
        []
      .fin))))) (.one 5 ⟨some 9, none, .alloc ty_impl_ServerRun [.sn, .sn, .sn, .sn]⟩ [] []
        []
      (.alt (.one 0 ⟨some 34, none, .call (.k (.fn n_impl_none [] [])) [.k (.i .i64 120)]⟩ [] []
        []
      (.one 3 ⟨some 37, none, .msl ty_sl_int 24 [.sn] (.t 36)⟩ [] [4]
        [⟨some 38, none, .build [.sn, .sn, .sn, .sn] [(2, 1, .t 34), (3, 1, .t 37)]⟩]
      (.one 6 ⟨none, none, .st 4 (.t 9) (.t 38)⟩ [] []
        []
      .fin))) (.one 3 ⟨some 37, none, .msl ty_sl_int 24 [.sn] (.t 36)⟩ [] []
        []
      (.one 0 ⟨some 34, none, .call (.k (.fn n_impl_none [] [])) [.k (.i .i64 120)]⟩ [] [4]
        [⟨some 38, none, .build [.sn, .sn, .sn, .sn] [(2, 1, .t 34), (3, 1, .t 37)]⟩]
      (.one 6 ⟨none, none, .st 4 (.t 9) (.t 38)⟩ [] []
        []
      .fin))))))))
    (.seq (.ops [⟨some 39, none, .mv (.t 2)⟩,
      ⟨some 40, none, .len (.t 39)⟩,
      ⟨some 41, none, .msl ty_ptr_impl_server 8 [.pn] (.t 40)⟩,
      ⟨some 10, none, .alloc ty_sl_ptr_impl_server [.sn]⟩,
      ⟨none, none, .st 1 (.t 10) (.t 41)⟩])
    (.seq (.seq (.ops [⟨some 42, none, .mv (.t 2)⟩,
      ⟨some 43, none, .len (.t 42)⟩,
      ⟨some 44, none, .mv (.k (.i .i64 0))⟩])
    (.block 0 (.loop l0_impl_RunServers)))
    (.seq (.ops [⟨some 72, none, .ld (.t 5)⟩,
      ⟨some 73, none, .mkf n_impl_RunServers_2 [] [.t 10, .t 5, .t 9]⟩,
      ⟨some 74, none, .call (.k (.fn n_impl_simulate [] [])) [.t 72, .t 73]⟩,
      ⟨some 75, none, .fa 0 (.t 9)⟩,
      ⟨none, none, .st 2 (.t 75) (.t 74)⟩])
    (.seq (.ops [⟨some 76, none, .ldn 4 (.t 9)⟩,
      ⟨none, none, .st 4 (.t 8) (.t 76)⟩])
    (.ret)))))))
theorem k_impl_RunServers : chkF Try.prog Try.f23 77 c_impl_RunServers [.c 8 (some 4)] = true := by kernel_rfl
theorem call_impl_RunServers {args : List AV} {σ : List AB} {K : AV → List AB → Prop} (hn : args.length ≤ 77) (hw : wpC Try.prog σ.length 77 c_impl_RunServers (retP σ.length [.c 8 (some 4)] K) ⟨initT 0 args, σ⟩) : CallWp Try.prog n_impl_RunServers args σ K := call_fn mixed Try.func23 k_impl_RunServers hn hw

-- loop.example/deadlinescheduler/spec.ServersValid
-- region 4 draws, 21 of 21 first
-- l0_spec_ServersValid: live at the head: 0 3 23 24 25 26 27 28 29
def l0_spec_ServersValid : LC := .seq (.seq (.ops [⟨some 4, none, .mv (.t 3)⟩,
      ⟨some 5, none, .mv (.t 0)⟩,
      ⟨some 6, none, .len (.t 5)⟩,
      ⟨some 7, none, .bin .lss (.t 4) (.t 6)⟩])
    (.cond (.t 7) (.skip)
    (.exit 0)))
    (.seq (.block 1 (.seq (.draw 21 [⟨some 10, none, .mv (.t 0)⟩,
      ⟨some 11, none, .mv (.t 3)⟩,
      ⟨some 12, none, .ia 2 (.t 10) (.t 11)⟩,
      ⟨some 13, none, .fa 0 (.t 12)⟩,
      ⟨some 14, none, .ld (.t 13)⟩,
      ⟨some 15, none, .mv (.t 0)⟩,
      ⟨some 16, none, .mv (.t 3)⟩,
      ⟨some 17, none, .ia 2 (.t 15) (.t 16)⟩,
      ⟨some 18, none, .fa 1 (.t 17)⟩,
      ⟨some 19, none, .ld (.t 18)⟩,
      ⟨some 20, none, .call (.k (.fn n_spec_l1In [] [])) [.t 14, .k (.i .i64 1), .t 19]⟩,
      ⟨some 21, none, .not (.t 20)⟩,
      ⟨some 22, none, .mv (.t 21)⟩,
      ⟨some 23, (some (22, false)), .mv (.t 0)⟩,
      ⟨some 24, (some (22, false)), .mv (.t 3)⟩,
      ⟨some 25, (some (22, false)), .ia 2 (.t 23) (.t 24)⟩,
      ⟨some 26, (some (22, false)), .fa 1 (.t 25)⟩,
      ⟨some 27, (some (22, false)), .ld (.t 26)⟩,
      ⟨some 28, (some (22, false)), .call (.k (.fn n_spec_l1In [] [])) [.t 27, .k (.i .i64 1), .k (.i .i64 12)]⟩,
      ⟨some 29, (some (22, false)), .not (.t 28)⟩,
      ⟨some 30, none, .pick (.t 22) (.k (.b true)) (.t 29)⟩])
    (.cond (.t 30) (.seq (.ops [⟨some 2, none, .mv (.k (.b false))⟩])
    (.ret))
    (.skip))))
    (.ops [⟨some 8, none, .mv (.t 3)⟩,
      ⟨some 9, none, .bin .add (.t 8) (.k (.i .i64 1))⟩,
      ⟨some 3, none, .mv (.t 9)⟩]))
def c_spec_ServersValid : LC := .seq (.ops [⟨some 2, none, .mv (.k (.b false))⟩])
    (.seq (.seq (.ops [⟨some 3, none, .mv (.k (.i .i64 0))⟩])
    (.block 0 (.loop l0_spec_ServersValid)))
    (.seq (.ops [⟨some 31, none, .mv (.t 0)⟩,
      ⟨some 32, none, .len (.t 31)⟩,
      ⟨some 33, none, .bin .leq (.t 32) (.k (.i .i64 2))⟩,
      ⟨some 2, none, .mv (.t 33)⟩])
    (.ret)))
theorem k_spec_ServersValid : chkF Try.prog Try.f24 34 c_spec_ServersValid [.t 2] = true := by kernel_rfl
theorem call_spec_ServersValid {args : List AV} {σ : List AB} {K : AV → List AB → Prop} (hn : args.length ≤ 34) (hw : wpC Try.prog σ.length 34 c_spec_ServersValid (retP σ.length [.t 2] K) ⟨initT 0 args, σ⟩) : CallWp Try.prog n_spec_ServersValid args σ K := call_fn mixed Try.func24 k_spec_ServersValid hn hw

-- loop.example/deadlinescheduler/spec.ArrivalsLegal
-- region 4 draws, 34 of 34 first
-- l0_spec_ArrivalsLegal: live at the head: 0 3 18 19 20 21 22 23 24 27 28 29 30 31 32 33 34 35 36 37 38 39 40 41 42
def l0_spec_ArrivalsLegal : LC := .seq (.seq (.ops [⟨some 4, none, .mv (.t 3)⟩,
      ⟨some 5, none, .mv (.t 0)⟩,
      ⟨some 6, none, .len (.t 5)⟩,
      ⟨some 7, none, .bin .lss (.t 4) (.t 6)⟩])
    (.cond (.t 7) (.skip)
    (.exit 0)))
    (.seq (.block 1 (.seq (.draw 34 [⟨some 10, none, .mv (.t 0)⟩,
      ⟨some 11, none, .mv (.t 3)⟩,
      ⟨some 12, none, .ia 2 (.t 10) (.t 11)⟩,
      ⟨some 13, none, .fa 0 (.t 12)⟩,
      ⟨some 14, none, .ld (.t 13)⟩,
      ⟨some 15, none, .call (.k (.fn n_spec_l1In [] [])) [.t 14, .k (.i .i64 0), .k (.i .i64 119)]⟩,
      ⟨some 16, none, .not (.t 15)⟩,
      ⟨some 17, none, .mv (.t 16)⟩,
      ⟨some 18, (some (17, false)), .mv (.t 0)⟩,
      ⟨some 19, (some (17, false)), .mv (.t 3)⟩,
      ⟨some 20, (some (17, false)), .ia 2 (.t 18) (.t 19)⟩,
      ⟨some 21, (some (17, false)), .fa 1 (.t 20)⟩,
      ⟨some 22, (some (17, false)), .ld (.t 21)⟩,
      ⟨some 23, (some (17, false)), .call (.k (.fn n_spec_l1In [] [])) [.t 22, .k (.i .i64 1), .k (.i .i64 20)]⟩,
      ⟨some 24, (some (17, false)), .not (.t 23)⟩,
      ⟨some 25, none, .pick (.t 17) (.k (.b true)) (.t 24)⟩,
      ⟨some 26, none, .mv (.t 25)⟩,
      ⟨some 27, (some (26, false)), .mv (.t 3)⟩,
      ⟨some 28, (some (26, false)), .bin .gtr (.t 27) (.k (.i .i64 0))⟩,
      ⟨some 29, (some (26, false)), .mv (.t 28)⟩,
      ⟨some 30, (some (29, true)), .mv (.t 0)⟩,
      ⟨some 31, (some (29, true)), .mv (.t 3)⟩,
      ⟨some 32, (some (29, true)), .bin .sub (.t 31) (.k (.i .i64 1))⟩,
      ⟨some 33, (some (29, true)), .ia 2 (.t 30) (.t 32)⟩,
      ⟨some 34, (some (29, true)), .fa 0 (.t 33)⟩,
      ⟨some 35, (some (29, true)), .ld (.t 34)⟩,
      ⟨some 36, (some (29, true)), .mv (.t 0)⟩,
      ⟨some 37, (some (29, true)), .mv (.t 3)⟩,
      ⟨some 38, (some (29, true)), .ia 2 (.t 36) (.t 37)⟩,
      ⟨some 39, (some (29, true)), .fa 0 (.t 38)⟩,
      ⟨some 40, (some (29, true)), .ld (.t 39)⟩,
      ⟨some 41, (some (29, true)), .bin .gtr (.t 35) (.t 40)⟩,
      ⟨some 42, (some (26, false)), .pick (.t 29) (.t 41) (.k (.b false))⟩,
      ⟨some 43, none, .pick (.t 26) (.k (.b true)) (.t 42)⟩])
    (.cond (.t 43) (.seq (.ops [⟨some 2, none, .mv (.k (.b false))⟩])
    (.ret))
    (.skip))))
    (.ops [⟨some 8, none, .mv (.t 3)⟩,
      ⟨some 9, none, .bin .add (.t 8) (.k (.i .i64 1))⟩,
      ⟨some 3, none, .mv (.t 9)⟩]))
def c_spec_ArrivalsLegal : LC := .seq (.ops [⟨some 2, none, .mv (.k (.b false))⟩])
    (.seq (.seq (.ops [⟨some 3, none, .mv (.k (.i .i64 0))⟩])
    (.block 0 (.loop l0_spec_ArrivalsLegal)))
    (.seq (.ops [⟨some 44, none, .mv (.t 0)⟩,
      ⟨some 45, none, .len (.t 44)⟩,
      ⟨some 46, none, .bin .leq (.t 45) (.k (.i .i64 20))⟩,
      ⟨some 2, none, .mv (.t 46)⟩])
    (.ret)))
theorem k_spec_ArrivalsLegal : chkF Try.prog Try.f25 47 c_spec_ArrivalsLegal [.t 2] = true := by kernel_rfl
theorem call_spec_ArrivalsLegal {args : List AV} {σ : List AB} {K : AV → List AB → Prop} (hn : args.length ≤ 47) (hw : wpC Try.prog σ.length 47 c_spec_ArrivalsLegal (retP σ.length [.t 2] K) ⟨initT 0 args, σ⟩) : CallWp Try.prog n_spec_ArrivalsLegal args σ K := call_fn mixed Try.func25 k_spec_ArrivalsLegal hn hw

-- loop.example/deadlinescheduler/laws.sameRun
-- region 6 draws, 12 of 12 first
-- l0_laws_sameRun: live at the head: 2 3 5
def l0_laws_sameRun : LC := .seq (.seq (.ops [⟨some 29, none, .mv (.t 5)⟩,
      ⟨some 30, none, .fa 3 (.t 2)⟩,
      ⟨some 31, none, .ld (.t 30)⟩,
      ⟨some 32, none, .len (.t 31)⟩,
      ⟨some 33, none, .bin .lss (.t 29) (.t 32)⟩])
    (.cond (.t 33) (.skip)
    (.exit 0)))
    (.seq (.block 1 (.seq (.draw 12 [⟨some 36, none, .fa 3 (.t 2)⟩,
      ⟨some 37, none, .ld (.t 36)⟩,
      ⟨some 38, none, .mv (.t 5)⟩,
      ⟨some 39, none, .ia 1 (.t 37) (.t 38)⟩,
      ⟨some 40, none, .ld (.t 39)⟩,
      ⟨some 41, none, .fa 3 (.t 3)⟩,
      ⟨some 42, none, .ld (.t 41)⟩,
      ⟨some 43, none, .mv (.t 5)⟩,
      ⟨some 44, none, .ia 1 (.t 42) (.t 43)⟩,
      ⟨some 45, none, .ld (.t 44)⟩,
      ⟨some 46, none, .call (.k (.fn n_laws_sameInts [] [])) [.t 40, .t 45]⟩,
      ⟨some 47, none, .not (.t 46)⟩])
    (.cond (.t 47) (.seq (.ops [⟨some 4, none, .mv (.k (.b false))⟩])
    (.ret))
    (.skip))))
    (.ops [⟨some 34, none, .mv (.t 5)⟩,
      ⟨some 35, none, .bin .add (.t 34) (.k (.i .i64 1))⟩,
      ⟨some 5, none, .mv (.t 35)⟩]))
def c_laws_sameRun : LC := .seq (.ops [⟨some 2, none, .box ty_impl_ServerRun (.t 0)⟩,
      ⟨some 3, none, .box ty_impl_ServerRun (.t 1)⟩,
      ⟨some 4, none, .mv (.k (.b false))⟩])
    (.seq (.seq (.ops [⟨some 6, none, .fa 0 (.t 2)⟩,
      ⟨some 7, none, .ldn 2 (.t 6)⟩,
      ⟨some 8, none, .fa 0 (.t 3)⟩,
      ⟨some 9, none, .ldn 2 (.t 8)⟩,
      ⟨some 10, none, .call (.k (.fn n_laws_sameSchedule [] [])) [.t 7, .t 9]⟩,
      ⟨some 11, none, .not (.t 10)⟩,
      ⟨some 12, none, .mv (.t 11)⟩,
      ⟨some 13, (some (12, false)), .fa 2 (.t 2)⟩,
      ⟨some 14, (some (12, false)), .ld (.t 13)⟩,
      ⟨some 15, (some (12, false)), .fa 2 (.t 3)⟩,
      ⟨some 16, (some (12, false)), .ld (.t 15)⟩,
      ⟨some 17, (some (12, false)), .call (.k (.fn n_laws_sameInts [] [])) [.t 14, .t 16]⟩,
      ⟨some 18, (some (12, false)), .not (.t 17)⟩,
      ⟨some 19, none, .pick (.t 12) (.k (.b true)) (.t 18)⟩,
      ⟨some 20, none, .mv (.t 19)⟩,
      ⟨some 21, (some (20, false)), .fa 3 (.t 2)⟩,
      ⟨some 22, (some (20, false)), .ld (.t 21)⟩,
      ⟨some 23, (some (20, false)), .len (.t 22)⟩,
      ⟨some 24, (some (20, false)), .fa 3 (.t 3)⟩,
      ⟨some 25, (some (20, false)), .ld (.t 24)⟩,
      ⟨some 26, (some (20, false)), .len (.t 25)⟩,
      ⟨some 27, (some (20, false)), .bin .neq (.t 23) (.t 26)⟩,
      ⟨some 28, none, .pick (.t 20) (.k (.b true)) (.t 27)⟩])
    (.cond (.t 28) (.seq (.ops [⟨some 4, none, .mv (.k (.b false))⟩])
    (.ret))
    (.skip)))
    (.seq (.seq (.ops [⟨some 5, none, .mv (.k (.i .i64 0))⟩])
    (.block 0 (.loop l0_laws_sameRun)))
    (.seq (.ops [⟨some 4, none, .mv (.k (.b true))⟩])
    (.ret))))
theorem k_laws_sameRun : chkF Try.prog Try.f26 48 c_laws_sameRun [.t 4] = true := by kernel_rfl
theorem call_laws_sameRun {args : List AV} {σ : List AB} {K : AV → List AB → Prop} (hn : args.length ≤ 48) (hw : wpC Try.prog σ.length 48 c_laws_sameRun (retP σ.length [.t 4] K) ⟨initT 0 args, σ⟩) : CallWp Try.prog n_laws_sameRun args σ K := call_fn mixed Try.func26 k_laws_sameRun hn hw

-- loop.example/deadlinescheduler/spec.RunServers
-- l0_spec_RunServers: live at the head: 1 2 3 8 9
def l0_spec_RunServers : LC := .seq (.seq (.ops [⟨some 27, none, .mv (.t 9)⟩,
      ⟨some 28, none, .mv (.t 3)⟩,
      ⟨some 29, none, .len (.t 28)⟩,
      ⟨some 30, none, .bin .lss (.t 27) (.t 29)⟩])
    (.cond (.t 30) (.skip)
    (.exit 0)))
    (.seq (.block 1 (.seq (.ops [⟨some 33, none, .mv (.t 3)⟩,
      ⟨some 34, none, .mv (.t 9)⟩,
      ⟨some 35, none, .ia 1 (.t 33) (.t 34)⟩,
      ⟨some 36, none, .ld (.t 35)⟩,
      ⟨some 37, none, .call (.k (.fn n_spec_ArrivalsLegal [] [])) [.t 36]⟩,
      ⟨some 38, none, .not (.t 37)⟩])
    (.cond (.t 38) (.seq (.ops [⟨some 39, none, .build [.sn, .sn, .sn, .sn] []⟩,
      ⟨none, none, .st 4 (.t 8) (.t 39)⟩])
    (.ret))
    (.skip))))
    (.ops [⟨some 31, none, .mv (.t 9)⟩,
      ⟨some 32, none, .bin .add (.t 31) (.k (.i .i64 1))⟩,
      ⟨some 9, none, .mv (.t 32)⟩]))
def c_spec_RunServers : LC := .seq (.ops [⟨some 8, none, .alloc ty_impl_ServerRun [.sn, .sn, .sn, .sn]⟩])
    (.seq (.seq (.ops [⟨some 10, none, .mv (.t 0)⟩,
      ⟨some 11, none, .mv (.t 1)⟩,
      ⟨some 12, none, .call (.k (.fn n_spec_JobsLegal [] [])) [.t 10, .t 11]⟩,
      ⟨some 13, none, .not (.t 12)⟩,
      ⟨some 14, none, .mv (.t 13)⟩,
      ⟨some 15, (some (14, false)), .mv (.t 2)⟩,
      ⟨some 16, (some (14, false)), .call (.k (.fn n_spec_ServersValid [] [])) [.t 15]⟩,
      ⟨some 17, (some (14, false)), .not (.t 16)⟩,
      ⟨some 18, none, .pick (.t 14) (.k (.b true)) (.t 17)⟩,
      ⟨some 19, none, .mv (.t 18)⟩,
      ⟨some 20, (some (19, false)), .mv (.t 3)⟩,
      ⟨some 21, (some (19, false)), .len (.t 20)⟩,
      ⟨some 22, (some (19, false)), .mv (.t 2)⟩,
      ⟨some 23, (some (19, false)), .len (.t 22)⟩,
      ⟨some 24, (some (19, false)), .bin .neq (.t 21) (.t 23)⟩,
      ⟨some 25, none, .pick (.t 19) (.k (.b true)) (.t 24)⟩])
    (.cond (.t 25) (.seq (.ops [⟨some 26, none, .build [.sn, .sn, .sn, .sn] []⟩,
      ⟨none, none, .st 4 (.t 8) (.t 26)⟩])
    (.ret))
    (.skip)))
    (.seq (.seq (.ops [⟨some 9, none, .mv (.k (.i .i64 0))⟩])
    (.block 0 (.loop l0_spec_RunServers)))
    (.seq (.ops [⟨some 40, none, .mv (.t 1)⟩,
      ⟨some 41, none, .mv (.t 2)⟩,
      ⟨some 42, none, .mv (.t 3)⟩,
      ⟨some 43, none, .call (.k (.fn n_spec_l5Run [] [])) [.t 40, .t 41, .t 42]⟩,
      ⟨none, none, .st 4 (.t 8) (.t 43)⟩])
    (.ret))))
theorem k_spec_RunServers : chkF Try.prog Try.f27 44 c_spec_RunServers [.c 8 (some 4)] = true := by kernel_rfl
theorem call_spec_RunServers {args : List AV} {σ : List AB} {K : AV → List AB → Prop} (hn : args.length ≤ 44) (hw : wpC Try.prog σ.length 44 c_spec_RunServers (retP σ.length [.c 8 (some 4)] K) ⟨initT 0 args, σ⟩) : CallWp Try.prog n_spec_RunServers args σ K := call_fn mixed Try.func27 k_spec_RunServers hn hw

-- loop.example/deadlinescheduler/laws.ticks
-- l0_laws_ticks: live at the head: 0 1 5 6
def l0_laws_ticks : LC := .seq (.seq (.ops [⟨some 7, none, .mv (.t 6)⟩,
      ⟨some 8, none, .mv (.t 0)⟩,
      ⟨some 9, none, .len (.t 8)⟩,
      ⟨some 10, none, .bin .lss (.t 7) (.t 9)⟩])
    (.cond (.t 10) (.skip)
    (.exit 0)))
    (.seq (.block 1 (.seq (.ops [⟨some 13, none, .mv (.t 0)⟩,
      ⟨some 14, none, .mv (.t 6)⟩,
      ⟨some 15, none, .ia 1 (.t 13) (.t 14)⟩,
      ⟨some 16, none, .ld (.t 15)⟩,
      ⟨some 17, none, .mv (.t 1)⟩,
      ⟨some 18, none, .bin .eql (.t 16) (.t 17)⟩])
    (.cond (.t 18) (.ops [⟨some 19, none, .mv (.t 5)⟩,
      ⟨some 20, none, .bin .add (.t 19) (.k (.i .i64 1))⟩,
      ⟨some 5, none, .mv (.t 20)⟩])
    (.skip))))
    (.ops [⟨some 11, none, .mv (.t 6)⟩,
      ⟨some 12, none, .bin .add (.t 11) (.k (.i .i64 1))⟩,
      ⟨some 6, none, .mv (.t 12)⟩]))
def c_laws_ticks : LC := .seq (.ops [⟨some 4, none, .mv (.k (.i .i64 0))⟩])
    (.seq (.ops [⟨some 5, none, .mv (.k (.i .i64 0))⟩])
    (.seq (.seq (.ops [⟨some 6, none, .mv (.k (.i .i64 0))⟩])
    (.block 0 (.loop l0_laws_ticks)))
    (.seq (.ops [⟨some 21, none, .mv (.t 5)⟩,
      ⟨some 4, none, .mv (.t 21)⟩])
    (.ret))))
theorem k_laws_ticks : chkF Try.prog Try.f28 22 c_laws_ticks [.t 4] = true := by kernel_rfl
theorem call_laws_ticks {args : List AV} {σ : List AB} {K : AV → List AB → Prop} (hn : args.length ≤ 22) (hw : wpC Try.prog σ.length 22 c_laws_ticks (retP σ.length [.t 4] K) ⟨initT 0 args, σ⟩) : CallWp Try.prog n_laws_ticks args σ K := call_fn mixed Try.func28 k_laws_ticks hn hw

-- loop.example/deadlinescheduler/impl.ServersFeasible
-- region 12 draws, 9 of 10 first
-- l2_impl_ServersFeasible: live at the head: 0 1 5 6 20 21 22
-- l1_impl_ServersFeasible: live at the head: 0 5 6 31 32 33
-- l0_impl_ServersFeasible: live at the head: 0 5 6 11
def l0_impl_ServersFeasible : LC := .seq (.seq (.ops [⟨some 47, none, .mv (.t 11)⟩,
      ⟨some 48, none, .mv (.t 0)⟩,
      ⟨some 49, none, .call (.k (.fn n_impl_hyper [] [])) [.t 48]⟩,
      ⟨some 50, none, .bin .leq (.t 47) (.t 49)⟩])
    (.cond (.t 50) (.skip)
    (.exit 4)))
    (.seq (.block 5 (.seq (.ops [⟨some 53, none, .mv (.t 0)⟩,
      ⟨some 54, none, .mv (.t 11)⟩,
      ⟨some 55, none, .call (.k (.fn n_impl_demand [] [])) [.t 53, .t 54]⟩,
      ⟨some 56, none, .mv (.t 5)⟩,
      ⟨some 57, none, .bin .mul (.t 55) (.t 56)⟩,
      ⟨some 58, none, .mv (.t 11)⟩,
      ⟨some 59, none, .mv (.t 6)⟩,
      ⟨some 60, none, .bin .mul (.t 58) (.t 59)⟩,
      ⟨some 61, none, .bin .add (.t 57) (.t 60)⟩,
      ⟨some 62, none, .mv (.t 11)⟩,
      ⟨some 63, none, .mv (.t 5)⟩,
      ⟨some 64, none, .bin .mul (.t 62) (.t 63)⟩,
      ⟨some 65, none, .bin .gtr (.t 61) (.t 64)⟩])
    (.cond (.t 65) (.seq (.ops [⟨some 4, none, .mv (.k (.b false))⟩])
    (.ret))
    (.skip))))
    (.ops [⟨some 51, none, .mv (.t 11)⟩,
      ⟨some 52, none, .bin .add (.t 51) (.k (.i .i64 1))⟩,
      ⟨some 11, none, .mv (.t 52)⟩]))
def l1_impl_ServersFeasible : LC := .seq (.ops [⟨some 34, none, .bin .lss (.t 33) (.t 32)⟩])
    (.seq (.cond (.t 34) (.skip)
    (.exit 2))
    (.seq (.block 3 (.seq (.ops [⟨some 35, none, .ia 2 (.t 31) (.t 33)⟩,
      ⟨some 36, none, .ldn 2 (.t 35)⟩,
      ⟨some 10, none, .alloc ty_impl_Server [.i .i64 0, .i .i64 0]⟩,
      ⟨none, none, .st 2 (.t 10) (.t 36)⟩])
    (.draw 9 [⟨some 37, none, .mv (.t 6)⟩,
      ⟨some 38, none, .mv (.t 5)⟩,
      ⟨some 39, none, .fa 1 (.t 10)⟩,
      ⟨some 40, none, .ld (.t 39)⟩,
      ⟨some 41, none, .bin .quo (.t 38) (.t 40)⟩,
      ⟨some 42, none, .fa 0 (.t 10)⟩,
      ⟨some 43, none, .ld (.t 42)⟩,
      ⟨some 44, none, .bin .mul (.t 41) (.t 43)⟩,
      ⟨some 45, none, .bin .add (.t 37) (.t 44)⟩,
      ⟨some 6, none, .mv (.t 45)⟩])))
    (.ops [⟨some 46, none, .bin .add (.t 33) (.k (.i .i64 1))⟩,
      ⟨some 33, none, .mv (.t 46)⟩])))
def l2_impl_ServersFeasible : LC := .seq (.ops [⟨some 23, none, .bin .lss (.t 22) (.t 21)⟩])
    (.seq (.cond (.t 23) (.skip)
    (.exit 0))
    (.seq (.block 1 (.seq (.ops [⟨some 24, none, .ia 2 (.t 20) (.t 22)⟩,
      ⟨some 25, none, .ldn 2 (.t 24)⟩,
      ⟨some 8, none, .alloc ty_impl_Server [.i .i64 0, .i .i64 0]⟩,
      ⟨none, none, .st 2 (.t 8) (.t 25)⟩])
    (.ops [⟨some 26, none, .mv (.t 5)⟩,
      ⟨some 27, none, .fa 1 (.t 8)⟩,
      ⟨some 28, none, .ld (.t 27)⟩,
      ⟨some 29, none, .bin .mul (.t 26) (.t 28)⟩,
      ⟨some 5, none, .mv (.t 29)⟩])))
    (.ops [⟨some 30, none, .bin .add (.t 22) (.k (.i .i64 1))⟩,
      ⟨some 22, none, .mv (.t 30)⟩])))
def c_impl_ServersFeasible : LC := .seq (.ops [⟨some 4, none, .mv (.k (.b false))⟩])
    (.seq (.seq (.ops [⟨some 12, none, .mv (.t 0)⟩,
      ⟨some 13, none, .call (.k (.fn n_impl_SetValid [] [])) [.t 12]⟩,
      ⟨some 14, none, .not (.t 13)⟩,
      ⟨some 15, none, .mv (.t 14)⟩,
      ⟨some 16, (some (15, false)), .mv (.t 1)⟩,
      ⟨some 17, (some (15, false)), .call (.k (.fn n_impl_ServersValid [] [])) [.t 16]⟩,
      ⟨some 18, (some (15, false)), .not (.t 17)⟩,
      ⟨some 19, none, .pick (.t 15) (.k (.b true)) (.t 18)⟩])
    (.cond (.t 19) (.seq (.ops [⟨some 4, none, .mv (.k (.b false))⟩])
    (.ret))
    (.skip)))
    (.seq (.ops [⟨some 5, none, .mv (.k (.i .i64 1))⟩,
      ⟨some 6, none, .mv (.k (.i .i64 0))⟩])
    (.seq (.seq (.ops [⟨some 20, none, .mv (.t 1)⟩,
      ⟨some 21, none, .len (.t 20)⟩,
      ⟨some 22, none, .mv (.k (.i .i64 0))⟩])
    (.block 0 (.loop l2_impl_ServersFeasible)))
    (.seq (.seq (.ops [⟨some 31, none, .mv (.t 1)⟩,
      ⟨some 32, none, .len (.t 31)⟩,
      ⟨some 33, none, .mv (.k (.i .i64 0))⟩])
    (.block 2 (.loop l1_impl_ServersFeasible)))
    (.seq (.seq (.ops [⟨some 11, none, .mv (.k (.i .i64 1))⟩])
    (.block 4 (.loop l0_impl_ServersFeasible)))
    (.seq (.ops [⟨some 4, none, .mv (.k (.b true))⟩])
    (.ret)))))))
theorem k_impl_ServersFeasible : chkF Try.prog Try.f29 66 c_impl_ServersFeasible [.t 4] = true := by kernel_rfl
theorem call_impl_ServersFeasible {args : List AV} {σ : List AB} {K : AV → List AB → Prop} (hn : args.length ≤ 66) (hw : wpC Try.prog σ.length 66 c_impl_ServersFeasible (retP σ.length [.t 4] K) ⟨initT 0 args, σ⟩) : CallWp Try.prog n_impl_ServersFeasible args σ K := call_fn mixed Try.func29 k_impl_ServersFeasible hn hw

-- loop.example/deadlinescheduler/impl.Missed
def c_impl_Missed : LC := .seq (.ops [⟨some 3, none, .box ty_impl_Schedule (.t 1)⟩,
      ⟨some 4, none, .mv (.k (.sn))⟩])
    (.seq (.ops [⟨some 5, none, .mv (.t 0)⟩,
      ⟨some 6, none, .fa 1 (.t 3)⟩,
      ⟨some 7, none, .ld (.t 6)⟩,
      ⟨some 8, none, .call (.k (.fn n_impl_missed [] [])) [.t 5, .t 7]⟩,
      ⟨some 4, none, .mv (.t 8)⟩])
    (.ret))
theorem k_impl_Missed : chkF Try.prog Try.f30 9 c_impl_Missed [.t 4] = true := by kernel_rfl
theorem call_impl_Missed {args : List AV} {σ : List AB} {K : AV → List AB → Prop} (hn : args.length ≤ 9) (hw : wpC Try.prog σ.length 9 c_impl_Missed (retP σ.length [.t 4] K) ⟨initT 0 args, σ⟩) : CallWp Try.prog n_impl_Missed args σ K := call_fn mixed Try.func30 k_impl_Missed hn hw
theorem callC_impl_Missed {args : List AV} {σ : List AB} {K : AV → List AB → Prop} (hn : args.length ≤ 9) (hw : Closed σ → args.all (below1 σ.length) = true → wpC Try.prog σ.length 9 c_impl_Missed (retP σ.length [.t 4] K) ⟨initT 0 args, σ⟩) : CallWp Try.prog n_impl_Missed args σ K := call_fnC mixed Try.func30 k_impl_Missed hn hw

-- loop.example/deadlinescheduler/laws.contains
-- l0_laws_contains: live at the head: 0 1 5
def l0_laws_contains : LC := .seq (.seq (.ops [⟨some 6, none, .mv (.t 5)⟩,
      ⟨some 7, none, .mv (.t 0)⟩,
      ⟨some 8, none, .len (.t 7)⟩,
      ⟨some 9, none, .bin .lss (.t 6) (.t 8)⟩])
    (.cond (.t 9) (.skip)
    (.exit 0)))
    (.seq (.block 1 (.seq (.ops [⟨some 12, none, .mv (.t 0)⟩,
      ⟨some 13, none, .mv (.t 5)⟩,
      ⟨some 14, none, .ia 1 (.t 12) (.t 13)⟩,
      ⟨some 15, none, .ld (.t 14)⟩,
      ⟨some 16, none, .mv (.t 1)⟩,
      ⟨some 17, none, .bin .eql (.t 15) (.t 16)⟩])
    (.cond (.t 17) (.seq (.ops [⟨some 4, none, .mv (.k (.b true))⟩])
    (.ret))
    (.skip))))
    (.ops [⟨some 10, none, .mv (.t 5)⟩,
      ⟨some 11, none, .bin .add (.t 10) (.k (.i .i64 1))⟩,
      ⟨some 5, none, .mv (.t 11)⟩]))
def c_laws_contains : LC := .seq (.ops [⟨some 4, none, .mv (.k (.b false))⟩])
    (.seq (.seq (.ops [⟨some 5, none, .mv (.k (.i .i64 0))⟩])
    (.block 0 (.loop l0_laws_contains)))
    (.seq (.ops [⟨some 4, none, .mv (.k (.b false))⟩])
    (.ret)))
theorem k_laws_contains : chkF Try.prog Try.f31 18 c_laws_contains [.t 4] = true := by kernel_rfl
theorem call_laws_contains {args : List AV} {σ : List AB} {K : AV → List AB → Prop} (hn : args.length ≤ 18) (hw : wpC Try.prog σ.length 18 c_laws_contains (retP σ.length [.t 4] K) ⟨initT 0 args, σ⟩) : CallWp Try.prog n_laws_contains args σ K := call_fn mixed Try.func31 k_laws_contains hn hw

-- loop.example/deadlinescheduler/impl.ResourcesFeasible
-- l0_impl_ResourcesFeasible: live at the head: 0 1 5
def l0_impl_ResourcesFeasible : LC := .seq (.seq (.ops [⟨some 10, none, .mv (.t 5)⟩,
      ⟨some 11, none, .mv (.t 0)⟩,
      ⟨some 12, none, .call (.k (.fn n_impl_hyper [] [])) [.t 11]⟩,
      ⟨some 13, none, .bin .leq (.t 10) (.t 12)⟩])
    (.cond (.t 13) (.skip)
    (.exit 0)))
    (.seq (.block 1 (.seq (.ops [⟨some 16, none, .mv (.t 0)⟩,
      ⟨some 17, none, .mv (.t 5)⟩,
      ⟨some 18, none, .call (.k (.fn n_impl_demand [] [])) [.t 16, .t 17]⟩,
      ⟨some 19, none, .mv (.t 0)⟩,
      ⟨some 20, none, .mv (.t 1)⟩,
      ⟨some 21, none, .mv (.t 5)⟩,
      ⟨some 22, none, .call (.k (.fn n_impl_blocking [] [])) [.t 19, .t 20, .t 21]⟩,
      ⟨some 23, none, .bin .add (.t 18) (.t 22)⟩,
      ⟨some 24, none, .mv (.t 5)⟩,
      ⟨some 25, none, .bin .gtr (.t 23) (.t 24)⟩])
    (.cond (.t 25) (.seq (.ops [⟨some 4, none, .mv (.k (.b false))⟩])
    (.ret))
    (.skip))))
    (.ops [⟨some 14, none, .mv (.t 5)⟩,
      ⟨some 15, none, .bin .add (.t 14) (.k (.i .i64 1))⟩,
      ⟨some 5, none, .mv (.t 15)⟩]))
def c_impl_ResourcesFeasible : LC := .seq (.ops [⟨some 4, none, .mv (.k (.b false))⟩])
    (.seq (.seq (.ops [⟨some 6, none, .mv (.t 0)⟩,
      ⟨some 7, none, .mv (.t 1)⟩,
      ⟨some 8, none, .call (.k (.fn n_impl_SectionsValid [] [])) [.t 6, .t 7]⟩,
      ⟨some 9, none, .not (.t 8)⟩])
    (.cond (.t 9) (.seq (.ops [⟨some 4, none, .mv (.k (.b false))⟩])
    (.ret))
    (.skip)))
    (.seq (.seq (.ops [⟨some 5, none, .mv (.k (.i .i64 1))⟩])
    (.block 0 (.loop l0_impl_ResourcesFeasible)))
    (.seq (.ops [⟨some 4, none, .mv (.k (.b true))⟩])
    (.ret))))
theorem k_impl_ResourcesFeasible : chkF Try.prog Try.f32 26 c_impl_ResourcesFeasible [.t 4] = true := by kernel_rfl
theorem call_impl_ResourcesFeasible {args : List AV} {σ : List AB} {K : AV → List AB → Prop} (hn : args.length ≤ 26) (hw : wpC Try.prog σ.length 26 c_impl_ResourcesFeasible (retP σ.length [.t 4] K) ⟨initT 0 args, σ⟩) : CallWp Try.prog n_impl_ResourcesFeasible args σ K := call_fn mixed Try.func32 k_impl_ResourcesFeasible hn hw

-- loop.example/deadlinescheduler/spec.JobsLegal
-- region 11 draws, 26 of 26 first
-- region 13 draws, 35 of 35 first
-- l0_spec_JobsLegal: live at the head: 0 1 5 6 38 39 40 41 57 58 59 60 61 62 63 64 67 68 69 70 71 72 77 78 79 80 81 82 83 84 85 86 87 88 89 90 91 92 93 94 95 96 97 98 99 100 101 102 103 104 105 106 107
def l0_spec_JobsLegal : LC := .seq (.seq (.ops [⟨some 20, none, .mv (.t 6)⟩,
      ⟨some 21, none, .mv (.t 1)⟩,
      ⟨some 22, none, .len (.t 21)⟩,
      ⟨some 23, none, .bin .lss (.t 20) (.t 22)⟩])
    (.cond (.t 23) (.skip)
    (.exit 0)))
    (.seq (.block 1 (.seq (.ops [⟨some 26, none, .mv (.t 1)⟩,
      ⟨some 27, none, .mv (.t 6)⟩,
      ⟨some 28, none, .ia 4 (.t 26) (.t 27)⟩,
      ⟨some 29, none, .ldn 4 (.t 28)⟩,
      ⟨some 7, none, .alloc ty_impl_Job [.i .i64 0, .i .i64 0, .i .i64 0, .i .i64 0]⟩,
      ⟨none, none, .st 4 (.t 7) (.t 29)⟩])
    (.seq (.seq (.ops [⟨some 30, none, .fa 0 (.t 7)⟩,
      ⟨some 31, none, .ld (.t 30)⟩,
      ⟨some 32, none, .mv (.t 0)⟩,
      ⟨some 33, none, .len (.t 32)⟩,
      ⟨some 34, none, .bin .sub (.t 33) (.k (.i .i64 1))⟩,
      ⟨some 35, none, .call (.k (.fn n_spec_l1In [] [])) [.t 31, .k (.i .i64 0), .t 34]⟩,
      ⟨some 36, none, .not (.t 35)⟩,
      ⟨some 37, none, .mv (.t 36)⟩,
      ⟨some 38, (some (37, false)), .fa 1 (.t 7)⟩,
      ⟨some 39, (some (37, false)), .ld (.t 38)⟩,
      ⟨some 40, (some (37, false)), .call (.k (.fn n_spec_l1In [] [])) [.t 39, .k (.i .i64 0), .k (.i .i64 119)]⟩,
      ⟨some 41, (some (37, false)), .not (.t 40)⟩,
      ⟨some 42, none, .pick (.t 37) (.k (.b true)) (.t 41)⟩])
    (.cond (.t 42) (.seq (.ops [⟨some 4, none, .mv (.k (.b false))⟩])
    (.ret))
    (.skip)))
    (.seq (.ops [⟨some 43, none, .mv (.t 0)⟩,
      ⟨some 44, none, .fa 0 (.t 7)⟩,
      ⟨some 45, none, .ld (.t 44)⟩,
      ⟨some 46, none, .ia 3 (.t 43) (.t 45)⟩,
      ⟨some 47, none, .ldn 3 (.t 46)⟩,
      ⟨some 8, none, .alloc ty_impl_Task [.i .i64 0, .i .i64 0, .i .i64 0]⟩,
      ⟨none, none, .st 3 (.t 8) (.t 47)⟩])
    (.seq (.seq (.draw 26 [⟨some 48, none, .fa 1 (.t 7)⟩,
      ⟨some 49, none, .ld (.t 48)⟩,
      ⟨some 50, none, .mv (.t 5)⟩,
      ⟨some 51, none, .fa 0 (.t 7)⟩,
      ⟨some 52, none, .ld (.t 51)⟩,
      ⟨some 53, none, .ia 1 (.t 50) (.t 52)⟩,
      ⟨some 54, none, .ld (.t 53)⟩,
      ⟨some 55, none, .bin .lss (.t 49) (.t 54)⟩,
      ⟨some 56, none, .mv (.t 55)⟩,
      ⟨some 57, (some (56, false)), .fa 2 (.t 7)⟩,
      ⟨some 58, (some (56, false)), .ld (.t 57)⟩,
      ⟨some 59, (some (56, false)), .fa 1 (.t 7)⟩,
      ⟨some 60, (some (56, false)), .ld (.t 59)⟩,
      ⟨some 61, (some (56, false)), .fa 1 (.t 8)⟩,
      ⟨some 62, (some (56, false)), .ld (.t 61)⟩,
      ⟨some 63, (some (56, false)), .bin .add (.t 60) (.t 62)⟩,
      ⟨some 64, (some (56, false)), .bin .neq (.t 58) (.t 63)⟩,
      ⟨some 65, none, .pick (.t 56) (.k (.b true)) (.t 64)⟩,
      ⟨some 66, none, .mv (.t 65)⟩,
      ⟨some 67, (some (66, false)), .fa 3 (.t 7)⟩,
      ⟨some 68, (some (66, false)), .ld (.t 67)⟩,
      ⟨some 69, (some (66, false)), .fa 0 (.t 8)⟩,
      ⟨some 70, (some (66, false)), .ld (.t 69)⟩,
      ⟨some 71, (some (66, false)), .call (.k (.fn n_spec_l1In [] [])) [.t 68, .k (.i .i64 1), .t 70]⟩,
      ⟨some 72, (some (66, false)), .not (.t 71)⟩,
      ⟨some 73, none, .pick (.t 66) (.k (.b true)) (.t 72)⟩])
    (.cond (.t 73) (.seq (.ops [⟨some 4, none, .mv (.k (.b false))⟩])
    (.ret))
    (.skip)))
    (.seq (.seq (.draw 35 [⟨some 74, none, .mv (.t 6)⟩,
      ⟨some 75, none, .bin .gtr (.t 74) (.k (.i .i64 0))⟩,
      ⟨some 76, none, .mv (.t 75)⟩,
      ⟨some 77, (some (76, true)), .mv (.t 1)⟩,
      ⟨some 78, (some (76, true)), .mv (.t 6)⟩,
      ⟨some 79, (some (76, true)), .bin .sub (.t 78) (.k (.i .i64 1))⟩,
      ⟨some 80, (some (76, true)), .ia 4 (.t 77) (.t 79)⟩,
      ⟨some 81, (some (76, true)), .fa 1 (.t 80)⟩,
      ⟨some 82, (some (76, true)), .ld (.t 81)⟩,
      ⟨some 83, (some (76, true)), .fa 1 (.t 7)⟩,
      ⟨some 84, (some (76, true)), .ld (.t 83)⟩,
      ⟨some 85, (some (76, true)), .bin .gtr (.t 82) (.t 84)⟩,
      ⟨some 86, (some (76, true)), .mv (.t 85)⟩,
      ⟨some 87, (some (86, false)), .mv (.t 1)⟩,
      ⟨some 88, (some (86, false)), .mv (.t 6)⟩,
      ⟨some 89, (some (86, false)), .bin .sub (.t 88) (.k (.i .i64 1))⟩,
      ⟨some 90, (some (86, false)), .ia 4 (.t 87) (.t 89)⟩,
      ⟨some 91, (some (86, false)), .fa 1 (.t 90)⟩,
      ⟨some 92, (some (86, false)), .ld (.t 91)⟩,
      ⟨some 93, (some (86, false)), .fa 1 (.t 7)⟩,
      ⟨some 94, (some (86, false)), .ld (.t 93)⟩,
      ⟨some 95, (some (86, false)), .bin .eql (.t 92) (.t 94)⟩,
      ⟨some 96, (some (86, false)), .mv (.t 95)⟩,
      ⟨some 97, (some (96, true)), .mv (.t 1)⟩,
      ⟨some 98, (some (96, true)), .mv (.t 6)⟩,
      ⟨some 99, (some (96, true)), .bin .sub (.t 98) (.k (.i .i64 1))⟩,
      ⟨some 100, (some (96, true)), .ia 4 (.t 97) (.t 99)⟩,
      ⟨some 101, (some (96, true)), .fa 0 (.t 100)⟩,
      ⟨some 102, (some (96, true)), .ld (.t 101)⟩,
      ⟨some 103, (some (96, true)), .fa 0 (.t 7)⟩,
      ⟨some 104, (some (96, true)), .ld (.t 103)⟩,
      ⟨some 105, (some (96, true)), .bin .geq (.t 102) (.t 104)⟩,
      ⟨some 106, (some (86, false)), .pick (.t 96) (.t 105) (.k (.b false))⟩,
      ⟨some 107, (some (76, true)), .pick (.t 86) (.k (.b true)) (.t 106)⟩,
      ⟨some 108, none, .pick (.t 76) (.t 107) (.k (.b false))⟩])
    (.cond (.t 108) (.seq (.ops [⟨some 4, none, .mv (.k (.b false))⟩])
    (.ret))
    (.skip)))
    (.ops [⟨some 109, none, .mv (.t 5)⟩,
      ⟨some 110, none, .fa 0 (.t 7)⟩,
      ⟨some 111, none, .ld (.t 110)⟩,
      ⟨some 112, none, .fa 1 (.t 7)⟩,
      ⟨some 113, none, .ld (.t 112)⟩,
      ⟨some 114, none, .fa 2 (.t 8)⟩,
      ⟨some 115, none, .ld (.t 114)⟩,
      ⟨some 116, none, .bin .add (.t 113) (.t 115)⟩,
      ⟨some 117, none, .ia 1 (.t 109) (.t 111)⟩,
      ⟨none, none, .st 1 (.t 117) (.t 116)⟩])))))))
    (.ops [⟨some 24, none, .mv (.t 6)⟩,
      ⟨some 25, none, .bin .add (.t 24) (.k (.i .i64 1))⟩,
      ⟨some 6, none, .mv (.t 25)⟩]))
def c_spec_JobsLegal : LC := .seq (.ops [⟨some 4, none, .mv (.k (.b false))⟩])
    (.seq (.seq (.ops [⟨some 9, none, .mv (.t 0)⟩,
      ⟨some 10, none, .call (.k (.fn n_spec_SetValid [] [])) [.t 9]⟩,
      ⟨some 11, none, .not (.t 10)⟩,
      ⟨some 12, none, .mv (.t 11)⟩,
      ⟨some 13, (some (12, false)), .mv (.t 1)⟩,
      ⟨some 14, (some (12, false)), .len (.t 13)⟩,
      ⟨some 15, (some (12, false)), .bin .gtr (.t 14) (.k (.i .i64 60))⟩,
      ⟨some 16, none, .pick (.t 12) (.k (.b true)) (.t 15)⟩])
    (.cond (.t 16) (.seq (.ops [⟨some 4, none, .mv (.k (.b false))⟩])
    (.ret))
    (.skip)))
    (.seq (.ops [⟨some 17, none, .mv (.t 0)⟩,
      ⟨some 18, none, .len (.t 17)⟩,
      ⟨some 19, none, .msl ty_int 8 [.i .i64 0] (.t 18)⟩,
      ⟨some 5, none, .mv (.t 19)⟩])
    (.seq (.seq (.ops [⟨some 6, none, .mv (.k (.i .i64 0))⟩])
    (.block 0 (.loop l0_spec_JobsLegal)))
    (.seq (.ops [⟨some 4, none, .mv (.k (.b true))⟩])
    (.ret)))))
theorem k_spec_JobsLegal : chkF Try.prog Try.f33 118 c_spec_JobsLegal [.t 4] = true := by kernel_rfl
theorem call_spec_JobsLegal {args : List AV} {σ : List AB} {K : AV → List AB → Prop} (hn : args.length ≤ 118) (hw : wpC Try.prog σ.length 118 c_spec_JobsLegal (retP σ.length [.t 4] K) ⟨initT 0 args, σ⟩) : CallWp Try.prog n_spec_JobsLegal args σ K := call_fn mixed Try.func33 k_spec_JobsLegal hn hw

-- loop.example/deadlinescheduler/spec.l20Open
-- a cut
def c_spec_l20Open : LC := .seq (.ops [⟨some 2, none, .mv (.k (.pn))⟩])
    (.join (.seq (.ops [⟨some 3, none, .mv (.t 0)⟩,
      ⟨some 4, none, .len (.t 3)⟩,
      ⟨some 5, none, .bin .gtr (.t 4) (.k (.i .i64 2000))⟩])
    (.cond (.t 5) (.ops [⟨some 6, none, .mv (.t 0)⟩,
      ⟨some 7, none, .slc 1 (.t 6) none (some (.k (.i .i64 2000))) none⟩,
      ⟨some 0, none, .mv (.t 7)⟩])
    (.skip)))
    (.seq (.ops [⟨some 8, none, .mv (.t 0)⟩,
      ⟨some 9, none, .build [.sn, .i .i64 0] [(0, 1, .t 8)]⟩,
      ⟨some 10, none, .box ty_spec_l20Rd (.t 9)⟩,
      ⟨some 2, none, .mv (.t 10)⟩])
    (.ret)))
theorem k_spec_l20Open : chkF Try.prog Try.f34 11 c_spec_l20Open [.t 2] = true := by kernel_rfl
theorem call_spec_l20Open {args : List AV} {σ : List AB} {K : AV → List AB → Prop} (hn : args.length ≤ 11) (hw : wpC Try.prog σ.length 11 c_spec_l20Open (retP σ.length [.t 2] K) ⟨initT 0 args, σ⟩) : CallWp Try.prog n_spec_l20Open args σ K := call_fn mixed Try.func34 k_spec_l20Open hn hw

-- loop.example/deadlinescheduler/spec.l20Set
-- a cut
-- l1_spec_l20Set: live at the head: 0 1 5 6
-- l0_spec_l20Set: live at the head: 0 5
def l0_spec_l20Set : LC := .seq (.seq (.ops [⟨some 25, none, .mv (.t 5)⟩,
      ⟨some 26, none, .len (.t 25)⟩,
      ⟨some 27, none, .bin .leq (.t 26) (.k (.i .i64 5))⟩])
    (.cond (.t 27) (.skip)
    (.exit 2)))
    (.block 3 (.ops [⟨some 28, none, .mv (.t 5)⟩,
      ⟨some 29, none, .mv (.t 0)⟩,
      ⟨some 30, none, .call (.k (.fn n_spec_l20Task [] [])) [.t 29, .k (.i .i64 0)]⟩,
      ⟨some 31, none, .bsl ty_impl_Task [.i .i64 0, .i .i64 0, .i .i64 0] 1 [(0, 3, .t 30)]⟩,
      ⟨some 32, none, .app ty_impl_Task 3 24 (.t 28) (.t 31)⟩,
      ⟨some 5, none, .mv (.t 32)⟩]))
def l1_spec_l20Set : LC := .seq (.seq (.ops [⟨some 10, none, .mv (.t 6)⟩,
      ⟨some 11, none, .bin .gtr (.t 10) (.k (.i .i64 0))⟩])
    (.cond (.t 11) (.skip)
    (.exit 0)))
    (.seq (.block 1 (.ops [⟨some 14, none, .mv (.t 5)⟩,
      ⟨some 15, none, .mv (.t 0)⟩,
      ⟨some 16, none, .call (.k (.fn n_spec_l20Task [] [])) [.t 15, .k (.i .i64 0)]⟩,
      ⟨some 17, none, .bsl ty_impl_Task [.i .i64 0, .i .i64 0, .i .i64 0] 1 [(0, 3, .t 16)]⟩,
      ⟨some 18, none, .app ty_impl_Task 3 24 (.t 14) (.t 17)⟩,
      ⟨some 5, none, .mv (.t 18)⟩]))
    (.ops [⟨some 12, none, .mv (.t 6)⟩,
      ⟨some 13, none, .bin .sub (.t 12) (.k (.i .i64 1))⟩,
      ⟨some 6, none, .mv (.t 13)⟩]))
def c_spec_l20Set : LC := .seq (.ops [⟨some 4, none, .mv (.k (.sn))⟩])
    (.seq (.ops [⟨some 7, none, .bsl ty_impl_Task [.i .i64 0, .i .i64 0, .i .i64 0] 0 []⟩,
      ⟨some 5, none, .mv (.t 7)⟩])
    (.seq (.seq (.ops [⟨some 8, none, .mv (.t 0)⟩,
      ⟨some 9, none, .call (.k (.fn n_spec_l20Rd_pick [] [])) [.t 8, .k (.i .i64 6)]⟩,
      ⟨some 6, none, .mv (.t 9)⟩])
    (.block 0 (.loop l1_spec_l20Set)))
    (.join (.seq (.ops [⟨some 19, none, .mv (.t 0)⟩,
      ⟨some 20, none, .mv (.t 1)⟩,
      ⟨some 21, none, .call (.k (.fn n_spec_l20Rd_odd [] [])) [.t 19, .t 20]⟩])
    (.cond (.t 21) (.seq (.seq (.ops [⟨some 22, none, .mv (.t 0)⟩,
      ⟨some 23, none, .call (.k (.fn n_spec_l20Rd_pick [] [])) [.t 22, .k (.i .i64 3)]⟩,
      ⟨some 24, none, .bin .eql (.t 23) (.k (.i .i64 0))⟩])
    (.cond (.t 24) (.block 2 (.loop l0_spec_l20Set))
    (.skip)))
    (.ops [⟨some 33, none, .mv (.t 5)⟩,
      ⟨some 34, none, .mv (.t 0)⟩,
      ⟨some 35, none, .call (.k (.fn n_spec_l20Task [] [])) [.t 34, .k (.i .i64 2)]⟩,
      ⟨some 36, none, .bsl ty_impl_Task [.i .i64 0, .i .i64 0, .i .i64 0] 1 [(0, 3, .t 35)]⟩,
      ⟨some 37, none, .app ty_impl_Task 3 24 (.t 33) (.t 36)⟩,
      ⟨some 5, none, .mv (.t 37)⟩]))
    (.skip)))
    (.seq (.ops [⟨some 38, none, .mv (.t 5)⟩,
      ⟨some 4, none, .mv (.t 38)⟩])
    (.ret)))))
theorem k_spec_l20Set : chkF Try.prog Try.f35 39 c_spec_l20Set [.t 4] = true := by kernel_rfl
theorem call_spec_l20Set {args : List AV} {σ : List AB} {K : AV → List AB → Prop} (hn : args.length ≤ 39) (hw : wpC Try.prog σ.length 39 c_spec_l20Set (retP σ.length [.t 4] K) ⟨initT 0 args, σ⟩) : CallWp Try.prog n_spec_l20Set args σ K := call_fn mixed Try.func35 k_spec_l20Set hn hw

-- loop.example/deadlinescheduler/spec.l20Sections
-- region 8: a plan with 1 orders
-- a cut
-- a cut
-- a cut
-- l0_spec_l20Sections: live at the head: 0 1 2 7 8 25 26 27 64 65 66
def l0_spec_l20Sections : LC := .seq (.seq (.ops [⟨some 11, none, .mv (.t 8)⟩,
      ⟨some 12, none, .mv (.t 1)⟩,
      ⟨some 13, none, .len (.t 12)⟩,
      ⟨some 14, none, .bin .lss (.t 11) (.t 13)⟩])
    (.cond (.t 14) (.skip)
    (.exit 0)))
    (.seq (.block 1 (.seq (.ops [⟨some 17, none, .build [.i .i64 0, .i .i64 0, .i .i64 0] []⟩,
      ⟨some 9, none, .alloc ty_impl_Section [.i .i64 0, .i .i64 0, .i .i64 0]⟩,
      ⟨none, none, .st 3 (.t 9) (.t 17)⟩])
    (.seq (.join (.ops [⟨some 18, none, .mv (.t 1)⟩,
      ⟨some 19, none, .mv (.t 8)⟩,
      ⟨some 20, none, .ia 3 (.t 18) (.t 19)⟩,
      ⟨some 21, none, .fa 0 (.t 20)⟩,
      ⟨some 22, none, .ld (.t 21)⟩,
      ⟨some 23, none, .bin .gtr (.t 22) (.k (.i .i64 0))⟩,
      ⟨some 24, none, .mv (.t 23)⟩,
      ⟨some 25, (some (24, true)), .mv (.t 0)⟩,
      ⟨some 26, (some (24, true)), .call (.k (.fn n_spec_l20Rd_pick [] [])) [.t 25, .k (.i .i64 3)]⟩,
      ⟨some 27, (some (24, true)), .bin .gtr (.t 26) (.k (.i .i64 0))⟩,
      ⟨some 28, none, .pick (.t 24) (.t 27) (.k (.b false))⟩])
    (.cond (.t 28) (.seq (.ops [⟨some 29, none, .mv (.t 0)⟩,
      ⟨some 30, none, .mv (.t 1)⟩,
      ⟨some 31, none, .mv (.t 8)⟩,
      ⟨some 32, none, .ia 3 (.t 30) (.t 31)⟩,
      ⟨some 33, none, .fa 0 (.t 32)⟩,
      ⟨some 34, none, .ld (.t 33)⟩,
      ⟨some 35, none, .call (.k (.fn n_spec_l20Rd_pick [] [])) [.t 29, .t 34]⟩,
      ⟨some 36, none, .bin .add (.k (.i .i64 1)) (.t 35)⟩,
      ⟨some 37, none, .fa 1 (.t 9)⟩,
      ⟨none, none, .st 1 (.t 37) (.t 36)⟩])
    (.seq (.plan [0, 1, 2, 3, 4, 5, 6, 7, 8, 9] [⟨some 38, none, .mv (.t 0)⟩,
      ⟨some 39, none, .mv (.t 1)⟩,
      ⟨some 40, none, .mv (.t 8)⟩,
      ⟨some 41, none, .ia 3 (.t 39) (.t 40)⟩,
      ⟨some 42, none, .fa 0 (.t 41)⟩,
      ⟨some 43, none, .ld (.t 42)⟩,
      ⟨some 44, none, .fa 1 (.t 9)⟩,
      ⟨some 45, none, .ld (.t 44)⟩,
      ⟨some 46, none, .bin .sub (.t 43) (.t 45)⟩,
      ⟨some 47, none, .bin .add (.t 46) (.k (.i .i64 1))⟩]
      (.one 10 ⟨some 48, none, .call (.k (.fn n_spec_l20Rd_pick [] [])) [.t 38, .t 47]⟩ [(43, none, 42), (45, none, 44)] [11]
        [⟨some 49, none, .fa 0 (.t 9)⟩]
      (.one 12 ⟨none, none, .st 1 (.t 49) (.t 48)⟩ [] []
        []
      .fin)))
    (.ops [⟨some 50, none, .mv (.t 0)⟩,
      ⟨some 51, none, .call (.k (.fn n_spec_l20Rd_pick [] [])) [.t 50, .k (.i .i64 2)]⟩,
      ⟨some 52, none, .fa 2 (.t 9)⟩,
      ⟨none, none, .st 1 (.t 52) (.t 51)⟩])))
    (.skip)))
    (.ops [⟨some 53, none, .mv (.t 7)⟩,
      ⟨some 54, none, .ldn 3 (.t 9)⟩,
      ⟨some 55, none, .bsl ty_impl_Section [.i .i64 0, .i .i64 0, .i .i64 0] 1 [(0, 3, .t 54)]⟩,
      ⟨some 56, none, .app ty_impl_Section 3 24 (.t 53) (.t 55)⟩,
      ⟨some 7, none, .mv (.t 56)⟩]))))
    (.ops [⟨some 15, none, .mv (.t 8)⟩,
      ⟨some 16, none, .bin .add (.t 15) (.k (.i .i64 1))⟩,
      ⟨some 8, none, .mv (.t 16)⟩]))
def c_spec_l20Sections : LC := .seq (.ops [⟨some 6, none, .mv (.k (.sn))⟩])
    (.seq (.ops [⟨some 10, none, .bsl ty_impl_Section [.i .i64 0, .i .i64 0, .i .i64 0] 0 []⟩,
      ⟨some 7, none, .mv (.t 10)⟩])
    (.seq (.seq (.ops [⟨some 8, none, .mv (.k (.i .i64 0))⟩])
    (.block 0 (.loop l0_spec_l20Sections)))
    (.join (.seq (.ops [⟨some 57, none, .mv (.t 0)⟩,
      ⟨some 58, none, .mv (.t 2)⟩,
      ⟨some 59, none, .call (.k (.fn n_spec_l20Rd_odd [] [])) [.t 57, .t 58]⟩])
    (.cond (.t 59) (.seq (.join (.ops [⟨some 60, none, .mv (.t 7)⟩,
      ⟨some 61, none, .len (.t 60)⟩,
      ⟨some 62, none, .bin .eql (.t 61) (.k (.i .i64 0))⟩,
      ⟨some 63, none, .mv (.t 62)⟩,
      ⟨some 64, (some (63, false)), .mv (.t 0)⟩,
      ⟨some 65, (some (63, false)), .call (.k (.fn n_spec_l20Rd_pick [] [])) [.t 64, .k (.i .i64 3)]⟩,
      ⟨some 66, (some (63, false)), .bin .eql (.t 65) (.k (.i .i64 0))⟩,
      ⟨some 67, none, .pick (.t 63) (.k (.b true)) (.t 66)⟩])
    (.cond (.t 67) (.seq (.ops [⟨some 68, none, .mv (.t 7)⟩,
      ⟨some 69, none, .build [.i .i64 0, .i .i64 0, .i .i64 0] []⟩,
      ⟨some 70, none, .bsl ty_impl_Section [.i .i64 0, .i .i64 0, .i .i64 0] 1 [(0, 3, .t 69)]⟩,
      ⟨some 71, none, .app ty_impl_Section 3 24 (.t 68) (.t 70)⟩,
      ⟨some 6, none, .mv (.t 71)⟩])
    (.ret))
    (.skip)))
    (.ops [⟨some 72, none, .mv (.t 7)⟩,
      ⟨some 73, none, .mv (.t 0)⟩,
      ⟨some 74, none, .mv (.t 7)⟩,
      ⟨some 75, none, .len (.t 74)⟩,
      ⟨some 76, none, .call (.k (.fn n_spec_l20Rd_pick [] [])) [.t 73, .t 75]⟩,
      ⟨some 77, none, .build [.i .i64 0, .i .i64 0, .i .i64 0] [(0, 1, .k (.i .i64 1))]⟩,
      ⟨some 78, none, .build [.i .i64 0, .i .i64 0, .i .i64 0] [(1, 1, .k (.i .i64 (-1)))]⟩,
      ⟨some 79, none, .build [.i .i64 0, .i .i64 0, .i .i64 0] [(1, 1, .k (.i .i64 1)), (2, 1, .k (.i .i64 3))]⟩,
      ⟨some 80, none, .build [.i .i64 0, .i .i64 0, .i .i64 0] [(1, 1, .k (.i .i64 9))]⟩,
      ⟨some 81, none, .build [.i .i64 0, .i .i64 0, .i .i64 0] [(0, 1, .k (.i .i64 (-1))), (1, 1, .k (.i .i64 1))]⟩,
      ⟨some 82, none, .build [.i .i64 0, .i .i64 0, .i .i64 0] [(0, 1, .k (.i .i64 8)), (1, 1, .k (.i .i64 1))]⟩,
      ⟨some 83, none, .bsl ty_impl_Section [.i .i64 0, .i .i64 0, .i .i64 0] 6 [(0, 3, .t 77), (3, 3, .t 78), (6, 3, .t 79), (9, 3, .t 80), (12, 3, .t 81), (15, 3, .t 82)]⟩,
      ⟨some 84, none, .mv (.t 0)⟩,
      ⟨some 85, none, .call (.k (.fn n_spec_l20Rd_pick [] [])) [.t 84, .k (.i .i64 6)]⟩,
      ⟨some 86, none, .ia 3 (.t 83) (.t 85)⟩,
      ⟨some 87, none, .ldn 3 (.t 86)⟩,
      ⟨some 88, none, .ia 3 (.t 72) (.t 76)⟩,
      ⟨none, none, .st 3 (.t 88) (.t 87)⟩]))
    (.skip)))
    (.seq (.ops [⟨some 89, none, .mv (.t 7)⟩,
      ⟨some 6, none, .mv (.t 89)⟩])
    (.ret)))))
theorem k_spec_l20Sections : chkF Try.prog Try.f36 90 c_spec_l20Sections [.t 6] = true := by kernel_rfl
theorem call_spec_l20Sections {args : List AV} {σ : List AB} {K : AV → List AB → Prop} (hn : args.length ≤ 90) (hw : wpC Try.prog σ.length 90 c_spec_l20Sections (retP σ.length [.t 6] K) ⟨initT 0 args, σ⟩) : CallWp Try.prog n_spec_l20Sections args σ K := call_fn mixed Try.func36 k_spec_l20Sections hn hw

-- loop.example/deadlinescheduler/spec.SetValid
-- l0_spec_SetValid: live at the head: 0 3
def l0_spec_SetValid : LC := .seq (.seq (.ops [⟨some 4, none, .mv (.t 3)⟩,
      ⟨some 5, none, .mv (.t 0)⟩,
      ⟨some 6, none, .len (.t 5)⟩,
      ⟨some 7, none, .bin .lss (.t 4) (.t 6)⟩])
    (.cond (.t 7) (.skip)
    (.exit 0)))
    (.seq (.block 1 (.seq (.ops [⟨some 10, none, .mv (.t 0)⟩,
      ⟨some 11, none, .mv (.t 3)⟩,
      ⟨some 12, none, .ia 3 (.t 10) (.t 11)⟩,
      ⟨some 13, none, .ldn 3 (.t 12)⟩,
      ⟨some 14, none, .call (.k (.fn n_spec_TaskValid [] [])) [.t 13]⟩,
      ⟨some 15, none, .not (.t 14)⟩])
    (.cond (.t 15) (.seq (.ops [⟨some 2, none, .mv (.k (.b false))⟩])
    (.ret))
    (.skip))))
    (.ops [⟨some 8, none, .mv (.t 3)⟩,
      ⟨some 9, none, .bin .add (.t 8) (.k (.i .i64 1))⟩,
      ⟨some 3, none, .mv (.t 9)⟩]))
def c_spec_SetValid : LC := .seq (.ops [⟨some 2, none, .mv (.k (.b false))⟩])
    (.seq (.seq (.ops [⟨some 3, none, .mv (.k (.i .i64 0))⟩])
    (.block 0 (.loop l0_spec_SetValid)))
    (.seq (.ops [⟨some 16, none, .mv (.t 0)⟩,
      ⟨some 17, none, .len (.t 16)⟩,
      ⟨some 18, none, .bin .leq (.t 17) (.k (.i .i64 5))⟩,
      ⟨some 2, none, .mv (.t 18)⟩])
    (.ret)))
theorem k_spec_SetValid : chkF Try.prog Try.f37 19 c_spec_SetValid [.t 2] = true := by kernel_rfl
theorem call_spec_SetValid {args : List AV} {σ : List AB} {K : AV → List AB → Prop} (hn : args.length ≤ 19) (hw : wpC Try.prog σ.length 19 c_spec_SetValid (retP σ.length [.t 2] K) ⟨initT 0 args, σ⟩) : CallWp Try.prog n_spec_SetValid args σ K := call_fn mixed Try.func37 k_spec_SetValid hn hw

-- loop.example/deadlinescheduler/spec.l20Jobs
-- a cut
-- a cut
-- region 24: a plan with 2 orders
-- a cut
-- l2_spec_l20Jobs: live at the head: 0 1 2 7 8 9 10 37 38 39 42 43 44 45 46 47 48 49 50 51 93 94 95
-- l1_spec_l20Jobs: live at the head: 0 1 2 7 8 9 10 11 37 38 39 42 43 44 45 46 47 48 49 50 51 93 94 95
-- l0_spec_l20Jobs: live at the head: 7
def l0_spec_l20Jobs : LC := .seq (.seq (.ops [⟨some 103, none, .mv (.t 7)⟩,
      ⟨some 104, none, .len (.t 103)⟩,
      ⟨some 105, none, .bin .leq (.t 104) (.k (.i .i64 60))⟩])
    (.cond (.t 105) (.skip)
    (.exit 5)))
    (.block 6 (.ops [⟨some 106, none, .mv (.t 7)⟩,
      ⟨some 107, none, .build [.i .i64 0, .i .i64 0, .i .i64 0, .i .i64 0] [(1, 1, .k (.i .i64 119)), (2, 1, .k (.i .i64 120)), (3, 1, .k (.i .i64 1))]⟩,
      ⟨some 108, none, .bsl ty_impl_Job [.i .i64 0, .i .i64 0, .i .i64 0, .i .i64 0] 1 [(0, 4, .t 107)]⟩,
      ⟨some 109, none, .app ty_impl_Job 4 32 (.t 106) (.t 108)⟩,
      ⟨some 7, none, .mv (.t 109)⟩]))
def l1_spec_l20Jobs : LC := .seq (.seq (.ops [⟨some 24, none, .mv (.t 11)⟩,
      ⟨some 25, none, .mv (.t 1)⟩,
      ⟨some 26, none, .len (.t 25)⟩,
      ⟨some 27, none, .bin .lss (.t 24) (.t 26)⟩])
    (.cond (.t 27) (.skip)
    (.exit 2)))
    (.seq (.block 3 (.seq (.join (.ops [⟨some 30, none, .mv (.t 10)⟩,
      ⟨some 31, none, .mv (.t 8)⟩,
      ⟨some 32, none, .mv (.t 11)⟩,
      ⟨some 33, none, .ia 1 (.t 31) (.t 32)⟩,
      ⟨some 34, none, .ld (.t 33)⟩,
      ⟨some 35, none, .bin .lss (.t 30) (.t 34)⟩,
      ⟨some 36, none, .mv (.t 35)⟩,
      ⟨some 37, (some (36, false)), .mv (.t 7)⟩,
      ⟨some 38, (some (36, false)), .len (.t 37)⟩,
      ⟨some 39, (some (36, false)), .bin .eql (.t 38) (.k (.i .i64 60))⟩,
      ⟨some 40, none, .pick (.t 36) (.k (.b true)) (.t 39)⟩,
      ⟨some 41, none, .mv (.t 40)⟩,
      ⟨some 42, (some (41, false)), .mv (.t 9)⟩,
      ⟨some 43, (some (41, false)), .bin .lss (.t 42) (.k (.i .i64 2))⟩,
      ⟨some 44, (some (41, false)), .mv (.t 43)⟩,
      ⟨some 45, (some (44, true)), .mv (.t 0)⟩,
      ⟨some 46, (some (44, true)), .mv (.t 9)⟩,
      ⟨some 47, (some (44, true)), .bin .mul (.k (.i .i64 7)) (.t 46)⟩,
      ⟨some 48, (some (44, true)), .bin .add (.k (.i .i64 3)) (.t 47)⟩,
      ⟨some 49, (some (44, true)), .call (.k (.fn n_spec_l20Rd_pick [] [])) [.t 45, .t 48]⟩,
      ⟨some 50, (some (44, true)), .bin .gtr (.t 49) (.k (.i .i64 1))⟩,
      ⟨some 51, (some (41, false)), .pick (.t 44) (.t 50) (.k (.b false))⟩,
      ⟨some 52, none, .pick (.t 41) (.k (.b true)) (.t 51)⟩])
    (.cond (.t 52) (.exit 3)
    (.skip)))
    (.seq (.ops [⟨some 53, none, .mv (.t 1)⟩,
      ⟨some 54, none, .mv (.t 11)⟩,
      ⟨some 55, none, .ia 3 (.t 53) (.t 54)⟩,
      ⟨some 56, none, .fa 0 (.t 55)⟩,
      ⟨some 57, none, .ld (.t 56)⟩,
      ⟨some 12, none, .mv (.t 57)⟩])
    (.join (.seq (.ops [⟨some 58, none, .mv (.t 0)⟩,
      ⟨some 59, none, .call (.k (.fn n_spec_l20Rd_pick [] [])) [.t 58, .k (.i .i64 3)]⟩,
      ⟨some 60, none, .bin .eql (.t 59) (.k (.i .i64 0))⟩])
    (.cond (.t 60) (.ops [⟨some 61, none, .mv (.t 0)⟩,
      ⟨some 62, none, .mv (.t 12)⟩,
      ⟨some 63, none, .call (.k (.fn n_spec_l20Rd_pick [] [])) [.t 61, .t 62]⟩,
      ⟨some 64, none, .bin .add (.k (.i .i64 1)) (.t 63)⟩,
      ⟨some 12, none, .mv (.t 64)⟩])
    (.skip)))
    (.seq (.ops [⟨some 65, none, .mv (.t 7)⟩,
      ⟨some 66, none, .mv (.t 11)⟩,
      ⟨some 67, none, .mv (.t 10)⟩,
      ⟨some 68, none, .mv (.t 10)⟩,
      ⟨some 69, none, .mv (.t 1)⟩,
      ⟨some 70, none, .mv (.t 11)⟩,
      ⟨some 71, none, .ia 3 (.t 69) (.t 70)⟩,
      ⟨some 72, none, .fa 1 (.t 71)⟩,
      ⟨some 73, none, .ld (.t 72)⟩,
      ⟨some 74, none, .bin .add (.t 68) (.t 73)⟩,
      ⟨some 75, none, .mv (.t 12)⟩,
      ⟨some 76, none, .build [.i .i64 0, .i .i64 0, .i .i64 0, .i .i64 0] [(0, 1, .t 66), (1, 1, .t 67), (2, 1, .t 74), (3, 1, .t 75)]⟩,
      ⟨some 77, none, .bsl ty_impl_Job [.i .i64 0, .i .i64 0, .i .i64 0, .i .i64 0] 1 [(0, 4, .t 76)]⟩,
      ⟨some 78, none, .app ty_impl_Job 4 32 (.t 65) (.t 77)⟩,
      ⟨some 7, none, .mv (.t 78)⟩])
    (.ops [⟨some 79, none, .mv (.t 8)⟩,
      ⟨some 80, none, .mv (.t 11)⟩,
      ⟨some 81, none, .mv (.t 10)⟩,
      ⟨some 82, none, .mv (.t 1)⟩,
      ⟨some 83, none, .mv (.t 11)⟩,
      ⟨some 84, none, .ia 3 (.t 82) (.t 83)⟩,
      ⟨some 85, none, .fa 2 (.t 84)⟩,
      ⟨some 86, none, .ld (.t 85)⟩,
      ⟨some 87, none, .bin .add (.t 81) (.t 86)⟩,
      ⟨some 88, none, .ia 1 (.t 79) (.t 80)⟩,
      ⟨none, none, .st 1 (.t 88) (.t 87)⟩]))))))
    (.ops [⟨some 28, none, .mv (.t 11)⟩,
      ⟨some 29, none, .bin .add (.t 28) (.k (.i .i64 1))⟩,
      ⟨some 11, none, .mv (.t 29)⟩]))
def l2_spec_l20Jobs : LC := .seq (.seq (.ops [⟨some 20, none, .mv (.t 10)⟩,
      ⟨some 21, none, .bin .lss (.t 20) (.k (.i .i64 100))⟩])
    (.cond (.t 21) (.skip)
    (.exit 0)))
    (.seq (.block 1 (.seq (.ops [⟨some 11, none, .mv (.k (.i .i64 0))⟩])
    (.block 2 (.loop l1_spec_l20Jobs))))
    (.ops [⟨some 22, none, .mv (.t 10)⟩,
      ⟨some 23, none, .bin .add (.t 22) (.k (.i .i64 1))⟩,
      ⟨some 10, none, .mv (.t 23)⟩]))
def c_spec_l20Jobs : LC := .seq (.ops [⟨some 6, none, .mv (.k (.sn))⟩])
    (.seq (.ops [⟨some 14, none, .bsl ty_impl_Job [.i .i64 0, .i .i64 0, .i .i64 0, .i .i64 0] 0 []⟩,
      ⟨some 7, none, .mv (.t 14)⟩])
    (.seq (.ops [⟨some 15, none, .mv (.t 1)⟩,
      ⟨some 16, none, .len (.t 15)⟩,
      ⟨some 17, none, .msl ty_int 8 [.i .i64 0] (.t 16)⟩,
      ⟨some 8, none, .mv (.t 17)⟩])
    (.seq (.ops [⟨some 18, none, .mv (.t 0)⟩,
      ⟨some 19, none, .call (.k (.fn n_spec_l20Rd_pick [] [])) [.t 18, .k (.i .i64 3)]⟩,
      ⟨some 9, none, .mv (.t 19)⟩])
    (.seq (.seq (.ops [⟨some 10, none, .mv (.k (.i .i64 0))⟩])
    (.block 0 (.loop l2_spec_l20Jobs)))
    (.join (.seq (.ops [⟨some 89, none, .mv (.t 0)⟩,
      ⟨some 90, none, .mv (.t 2)⟩,
      ⟨some 91, none, .call (.k (.fn n_spec_l20Rd_odd [] [])) [.t 89, .t 90]⟩,
      ⟨some 92, none, .mv (.t 91)⟩,
      ⟨some 93, (some (92, true)), .mv (.t 7)⟩,
      ⟨some 94, (some (92, true)), .len (.t 93)⟩,
      ⟨some 95, (some (92, true)), .bin .gtr (.t 94) (.k (.i .i64 0))⟩,
      ⟨some 96, none, .pick (.t 92) (.t 95) (.k (.b false))⟩])
    (.cond (.t 96) (.seq (.ops [⟨some 97, none, .mv (.t 0)⟩,
      ⟨some 98, none, .mv (.t 7)⟩,
      ⟨some 99, none, .len (.t 98)⟩,
      ⟨some 100, none, .call (.k (.fn n_spec_l20Rd_pick [] [])) [.t 97, .t 99]⟩,
      ⟨some 13, none, .mv (.t 100)⟩])
    (.seq (.ops [⟨some 101, none, .mv (.t 0)⟩,
      ⟨some 102, none, .call (.k (.fn n_spec_l20Rd_pick [] [])) [.t 101, .k (.i .i64 6)]⟩])
    (.block 4 (.seq (.ops [⟨some 111, none, .bin .eql (.t 102) (.k (.i .i64 0))⟩,
      ⟨some 110, none, .mv (.t 111)⟩])
    (.cond (.t 110) (.ops [⟨some 112, none, .mv (.t 7)⟩,
      ⟨some 113, none, .mv (.t 13)⟩,
      ⟨some 114, none, .mv (.t 1)⟩,
      ⟨some 115, none, .len (.t 114)⟩,
      ⟨some 116, none, .bsl ty_int [.i .i64 0] 2 [(0, 1, .k (.i .i64 (-1))), (1, 1, .t 115)]⟩,
      ⟨some 117, none, .mv (.t 0)⟩,
      ⟨some 118, none, .call (.k (.fn n_spec_l20Rd_pick [] [])) [.t 117, .k (.i .i64 2)]⟩,
      ⟨some 119, none, .ia 1 (.t 116) (.t 118)⟩,
      ⟨some 120, none, .ld (.t 119)⟩,
      ⟨some 121, none, .ia 4 (.t 112) (.t 113)⟩,
      ⟨some 122, none, .fa 0 (.t 121)⟩,
      ⟨none, none, .st 1 (.t 122) (.t 120)⟩])
    (.seq (.ops [⟨some 124, none, .bin .eql (.t 102) (.k (.i .i64 1))⟩,
      ⟨some 123, none, .mv (.t 124)⟩])
    (.cond (.t 123) (.plan [0, 1, 2, 3, 4, 5, 6, 7, 9] [⟨some 125, none, .mv (.t 7)⟩,
      ⟨some 126, none, .mv (.t 13)⟩,
      ⟨some 127, none, .mv (.t 7)⟩,
      ⟨some 128, none, .mv (.t 13)⟩,
      ⟨some 129, none, .ia 4 (.t 127) (.t 128)⟩,
      ⟨some 130, none, .fa 1 (.t 129)⟩,
      ⟨some 131, none, .ld (.t 130)⟩,
      ⟨some 132, none, .bin .add (.t 131) (.k (.i .i64 1))⟩,
      ⟨some 134, none, .mv (.t 0)⟩]
      (.alt (.one 8 ⟨some 133, none, .bsl ty_int [.i .i64 0] 3 [(0, 1, .k (.i .i64 (-1))), (1, 1, .k (.i .i64 120)), (2, 1, .t 132)]⟩ [(131, none, 130)] []
        []
      (.one 10 ⟨some 135, none, .call (.k (.fn n_spec_l20Rd_pick [] [])) [.t 134, .k (.i .i64 3)]⟩ [(131, none, 130)] [11, 12, 13, 14]
        [⟨some 136, none, .ia 1 (.t 133) (.t 135)⟩,
        ⟨some 137, none, .ld (.t 136)⟩,
        ⟨some 138, none, .ia 4 (.t 125) (.t 126)⟩,
        ⟨some 139, none, .fa 1 (.t 138)⟩]
      (.one 15 ⟨none, none, .st 1 (.t 139) (.t 137)⟩ [] []
        []
      .fin))) (.one 10 ⟨some 135, none, .call (.k (.fn n_spec_l20Rd_pick [] [])) [.t 134, .k (.i .i64 3)]⟩ [(131, none, 130)] []
        []
      (.one 8 ⟨some 133, none, .bsl ty_int [.i .i64 0] 3 [(0, 1, .k (.i .i64 (-1))), (1, 1, .k (.i .i64 120)), (2, 1, .t 132)]⟩ [(131, none, 130)] [11, 12, 13, 14]
        [⟨some 136, none, .ia 1 (.t 133) (.t 135)⟩,
        ⟨some 137, none, .ld (.t 136)⟩,
        ⟨some 138, none, .ia 4 (.t 125) (.t 126)⟩,
        ⟨some 139, none, .fa 1 (.t 138)⟩]
      (.one 15 ⟨none, none, .st 1 (.t 139) (.t 137)⟩ [] []
        []
      .fin)))))
    (.seq (.ops [⟨some 141, none, .bin .eql (.t 102) (.k (.i .i64 2))⟩,
      ⟨some 140, none, .mv (.t 141)⟩])
    (.cond (.t 140) (.ops [⟨some 142, none, .mv (.t 7)⟩,
      ⟨some 143, none, .mv (.t 13)⟩,
      ⟨some 144, none, .mv (.t 7)⟩,
      ⟨some 145, none, .mv (.t 13)⟩,
      ⟨some 146, none, .ia 4 (.t 144) (.t 145)⟩,
      ⟨some 147, none, .fa 2 (.t 146)⟩,
      ⟨some 148, none, .ld (.t 147)⟩,
      ⟨some 149, none, .bin .add (.t 148) (.k (.i .i64 1))⟩,
      ⟨some 150, none, .ia 4 (.t 142) (.t 143)⟩,
      ⟨some 151, none, .fa 2 (.t 150)⟩,
      ⟨none, none, .st 1 (.t 151) (.t 149)⟩])
    (.seq (.ops [⟨some 153, none, .bin .eql (.t 102) (.k (.i .i64 3))⟩,
      ⟨some 152, none, .mv (.t 153)⟩])
    (.cond (.t 152) (.ops [⟨some 154, none, .mv (.t 7)⟩,
      ⟨some 155, none, .mv (.t 13)⟩,
      ⟨some 156, none, .bsl ty_int [.i .i64 0] 2 [(0, 1, .k (.i .i64 0)), (1, 1, .k (.i .i64 9))]⟩,
      ⟨some 157, none, .mv (.t 0)⟩,
      ⟨some 158, none, .call (.k (.fn n_spec_l20Rd_pick [] [])) [.t 157, .k (.i .i64 2)]⟩,
      ⟨some 159, none, .ia 1 (.t 156) (.t 158)⟩,
      ⟨some 160, none, .ld (.t 159)⟩,
      ⟨some 161, none, .ia 4 (.t 154) (.t 155)⟩,
      ⟨some 162, none, .fa 3 (.t 161)⟩,
      ⟨none, none, .st 1 (.t 162) (.t 160)⟩])
    (.seq (.ops [⟨some 164, none, .bin .eql (.t 102) (.k (.i .i64 4))⟩,
      ⟨some 163, none, .mv (.t 164)⟩])
    (.cond (.t 163) (.ops [⟨some 165, none, .mv (.t 7)⟩,
      ⟨some 166, none, .mv (.t 7)⟩,
      ⟨some 167, none, .mv (.t 13)⟩,
      ⟨some 168, none, .ia 4 (.t 166) (.t 167)⟩,
      ⟨some 169, none, .ldn 4 (.t 168)⟩,
      ⟨some 170, none, .bsl ty_impl_Job [.i .i64 0, .i .i64 0, .i .i64 0, .i .i64 0] 1 [(0, 4, .t 169)]⟩,
      ⟨some 171, none, .app ty_impl_Job 4 32 (.t 165) (.t 170)⟩,
      ⟨some 7, none, .mv (.t 171)⟩])
    (.block 5 (.loop l0_spec_l20Jobs)))))))))))))))
    (.skip)))
    (.seq (.ops [⟨some 172, none, .mv (.t 7)⟩,
      ⟨some 6, none, .mv (.t 172)⟩])
    (.ret)))))))
theorem k_spec_l20Jobs : chkF Try.prog Try.f38 173 c_spec_l20Jobs [.t 6] = true := by kernel_rfl
theorem call_spec_l20Jobs {args : List AV} {σ : List AB} {K : AV → List AB → Prop} (hn : args.length ≤ 173) (hw : wpC Try.prog σ.length 173 c_spec_l20Jobs (retP σ.length [.t 6] K) ⟨initT 0 args, σ⟩) : CallWp Try.prog n_spec_l20Jobs args σ K := call_fn mixed Try.func38 k_spec_l20Jobs hn hw

-- loop.example/deadlinescheduler/impl.SectionsValid
-- region 6 draws, 39 of 39 first
-- l0_impl_SectionsValid: live at the head: 0 17 18 19 28 29 30 33 34 35 36 37 38 39 40 41 44 45 46 47 48 49 50 51 52 53 54 55 58 59 60 61
def l0_impl_SectionsValid : LC := .seq (.ops [⟨some 20, none, .bin .lss (.t 19) (.t 18)⟩])
    (.seq (.cond (.t 20) (.skip)
    (.exit 0))
    (.seq (.block 1 (.seq (.ops [⟨some 21, none, .mv (.t 19)⟩,
      ⟨some 22, none, .ia 3 (.t 17) (.t 19)⟩,
      ⟨some 23, none, .ldn 3 (.t 22)⟩,
      ⟨some 6, none, .alloc ty_impl_Section [.i .i64 0, .i .i64 0, .i .i64 0]⟩,
      ⟨some 5, none, .mv (.t 21)⟩,
      ⟨none, none, .st 3 (.t 6) (.t 23)⟩])
    (.seq (.draw 39 [⟨some 24, none, .fa 1 (.t 6)⟩,
      ⟨some 25, none, .ld (.t 24)⟩,
      ⟨some 26, none, .bin .eql (.t 25) (.k (.i .i64 0))⟩,
      ⟨some 27, none, .mv (.t 26)⟩,
      ⟨some 28, (some (27, true)), .ldn 3 (.t 6)⟩,
      ⟨some 29, (some (27, true)), .build [.i .i64 0, .i .i64 0, .i .i64 0] []⟩,
      ⟨some 30, (some (27, true)), .aeq true [true, true, true] (.t 28) (.t 29)⟩,
      ⟨some 31, none, .pick (.t 27) (.t 30) (.k (.b false))⟩,
      ⟨some 32, none, .mv (.t 31)⟩,
      ⟨some 33, (some (32, false)), .fa 1 (.t 6)⟩,
      ⟨some 34, (some (32, false)), .ld (.t 33)⟩,
      ⟨some 35, (some (32, false)), .mv (.t 0)⟩,
      ⟨some 36, (some (32, false)), .mv (.t 5)⟩,
      ⟨some 37, (some (32, false)), .ia 3 (.t 35) (.t 36)⟩,
      ⟨some 38, (some (32, false)), .fa 0 (.t 37)⟩,
      ⟨some 39, (some (32, false)), .ld (.t 38)⟩,
      ⟨some 40, (some (32, false)), .call (.k (.fn n_impl_in [] [])) [.t 34, .k (.i .i64 0), .t 39]⟩,
      ⟨some 41, (some (32, false)), .not (.t 40)⟩,
      ⟨some 42, none, .pick (.t 32) (.k (.b true)) (.t 41)⟩,
      ⟨some 43, none, .mv (.t 42)⟩,
      ⟨some 44, (some (43, false)), .fa 0 (.t 6)⟩,
      ⟨some 45, (some (43, false)), .ld (.t 44)⟩,
      ⟨some 46, (some (43, false)), .mv (.t 0)⟩,
      ⟨some 47, (some (43, false)), .mv (.t 5)⟩,
      ⟨some 48, (some (43, false)), .ia 3 (.t 46) (.t 47)⟩,
      ⟨some 49, (some (43, false)), .fa 0 (.t 48)⟩,
      ⟨some 50, (some (43, false)), .ld (.t 49)⟩,
      ⟨some 51, (some (43, false)), .fa 1 (.t 6)⟩,
      ⟨some 52, (some (43, false)), .ld (.t 51)⟩,
      ⟨some 53, (some (43, false)), .bin .sub (.t 50) (.t 52)⟩,
      ⟨some 54, (some (43, false)), .call (.k (.fn n_impl_in [] [])) [.t 45, .k (.i .i64 0), .t 53]⟩,
      ⟨some 55, (some (43, false)), .not (.t 54)⟩,
      ⟨some 56, none, .pick (.t 43) (.k (.b true)) (.t 55)⟩,
      ⟨some 57, none, .mv (.t 56)⟩,
      ⟨some 58, (some (57, false)), .fa 2 (.t 6)⟩,
      ⟨some 59, (some (57, false)), .ld (.t 58)⟩,
      ⟨some 60, (some (57, false)), .call (.k (.fn n_impl_in [] [])) [.t 59, .k (.i .i64 0), .k (.i .i64 2)]⟩,
      ⟨some 61, (some (57, false)), .not (.t 60)⟩,
      ⟨some 62, none, .pick (.t 57) (.k (.b true)) (.t 61)⟩])
    (.cond (.t 62) (.seq (.ops [⟨some 4, none, .mv (.k (.b false))⟩])
    (.ret))
    (.skip)))))
    (.ops [⟨some 63, none, .bin .add (.t 19) (.k (.i .i64 1))⟩,
      ⟨some 19, none, .mv (.t 63)⟩])))
def c_impl_SectionsValid : LC := .seq (.ops [⟨some 4, none, .mv (.k (.b false))⟩])
    (.seq (.seq (.ops [⟨some 7, none, .mv (.t 0)⟩,
      ⟨some 8, none, .call (.k (.fn n_impl_SetValid [] [])) [.t 7]⟩,
      ⟨some 9, none, .not (.t 8)⟩,
      ⟨some 10, none, .mv (.t 9)⟩,
      ⟨some 11, (some (10, false)), .mv (.t 1)⟩,
      ⟨some 12, (some (10, false)), .len (.t 11)⟩,
      ⟨some 13, (some (10, false)), .mv (.t 0)⟩,
      ⟨some 14, (some (10, false)), .len (.t 13)⟩,
      ⟨some 15, (some (10, false)), .bin .neq (.t 12) (.t 14)⟩,
      ⟨some 16, none, .pick (.t 10) (.k (.b true)) (.t 15)⟩])
    (.cond (.t 16) (.seq (.ops [⟨some 4, none, .mv (.k (.b false))⟩])
    (.ret))
    (.skip)))
    (.seq (.seq (.ops [⟨some 17, none, .mv (.t 1)⟩,
      ⟨some 18, none, .len (.t 17)⟩,
      ⟨some 19, none, .mv (.k (.i .i64 0))⟩])
    (.block 0 (.loop l0_impl_SectionsValid)))
    (.seq (.ops [⟨some 4, none, .mv (.k (.b true))⟩])
    (.ret))))
theorem k_impl_SectionsValid : chkF Try.prog Try.f39 64 c_impl_SectionsValid [.t 4] = true := by kernel_rfl
theorem call_impl_SectionsValid {args : List AV} {σ : List AB} {K : AV → List AB → Prop} (hn : args.length ≤ 64) (hw : wpC Try.prog σ.length 64 c_impl_SectionsValid (retP σ.length [.t 4] K) ⟨initT 0 args, σ⟩) : CallWp Try.prog n_impl_SectionsValid args σ K := call_fn mixed Try.func39 k_impl_SectionsValid hn hw

-- loop.example/deadlinescheduler/impl.JobsLegal
def c_impl_JobsLegal : LC := .seq (.ops [⟨some 2, none, .box ty_sl_impl_Task (.t 0)⟩,
      ⟨some 4, none, .mv (.k (.b false))⟩])
    (.seq (.ops [⟨some 5, none, .ld (.t 2)⟩,
      ⟨some 6, none, .call (.k (.fn n_impl_SetValid [] [])) [.t 5]⟩,
      ⟨some 7, none, .mv (.t 6)⟩,
      ⟨some 8, (some (7, true)), .mv (.t 1)⟩,
      ⟨some 9, (some (7, true)), .ld (.t 2)⟩,
      ⟨some 10, (some (7, true)), .len (.t 9)⟩,
      ⟨some 11, (some (7, true)), .mkf n_impl_JobsLegal_1 [] [.t 2]⟩,
      ⟨some 12, (some (7, true)), .call (.k (.fn n_impl_ordered [] [])) [.t 8, .t 10, .t 11]⟩,
      ⟨some 13, none, .pick (.t 7) (.t 12) (.k (.b false))⟩,
      ⟨some 14, none, .mv (.t 13)⟩,
      ⟨some 15, (some (14, true)), .mv (.t 1)⟩,
      ⟨some 16, (some (14, true)), .mkf n_impl_JobsLegal_2 [] [.t 2]⟩,
      ⟨some 17, (some (14, true)), .call (.k (.fn n_impl_spaced [] [])) [.t 15, .k (.fn n_impl_release [] []), .t 16]⟩,
      ⟨some 18, none, .pick (.t 14) (.t 17) (.k (.b false))⟩,
      ⟨some 19, none, .mv (.t 18)⟩,
      ⟨some 20, (some (19, true)), .mv (.t 1)⟩,
      ⟨some 21, (some (19, true)), .mkf n_impl_JobsLegal_3 [] [.t 2]⟩,
      ⟨some 22, (some (19, true)), .call (.k (.fn n_slices_ContainsFunc_impl_Job [] [])) [.t 20, .t 21]⟩,
      ⟨some 23, (some (19, true)), .not (.t 22)⟩,
      ⟨some 24, none, .pick (.t 19) (.t 23) (.k (.b false))⟩,
      ⟨some 4, none, .mv (.t 24)⟩])
    (.ret))
theorem k_impl_JobsLegal : chkF Try.prog Try.f40 25 c_impl_JobsLegal [.t 4] = true := by kernel_rfl
theorem call_impl_JobsLegal {args : List AV} {σ : List AB} {K : AV → List AB → Prop} (hn : args.length ≤ 25) (hw : wpC Try.prog σ.length 25 c_impl_JobsLegal (retP σ.length [.t 4] K) ⟨initT 0 args, σ⟩) : CallWp Try.prog n_impl_JobsLegal args σ K := call_fn mixed Try.func40 k_impl_JobsLegal hn hw

-- loop.example/deadlinescheduler/impl.ceilings
-- region 11 draws, 14 of 16 first
-- l1_impl_ceilings: live at the head: 0 1 5 11 12
-- l0_impl_ceilings: live at the head: 0 5 19 20 21
def l0_impl_ceilings : LC := .seq (.ops [⟨some 22, none, .bin .lss (.t 21) (.t 20)⟩])
    (.seq (.cond (.t 22) (.skip)
    (.exit 2))
    (.seq (.block 3 (.seq (.ops [⟨some 23, none, .mv (.t 21)⟩,
      ⟨some 24, none, .ia 3 (.t 19) (.t 21)⟩,
      ⟨some 25, none, .ldn 3 (.t 24)⟩,
      ⟨some 8, none, .alloc ty_impl_Section [.i .i64 0, .i .i64 0, .i .i64 0]⟩,
      ⟨some 7, none, .mv (.t 23)⟩,
      ⟨none, none, .st 3 (.t 8) (.t 25)⟩])
    (.seq (.ops [⟨some 26, none, .fa 1 (.t 8)⟩,
      ⟨some 27, none, .ld (.t 26)⟩,
      ⟨some 28, none, .bin .gtr (.t 27) (.k (.i .i64 0))⟩])
    (.cond (.t 28) (.draw 14 [⟨some 29, none, .mv (.t 5)⟩,
      ⟨some 30, none, .fa 2 (.t 8)⟩,
      ⟨some 31, none, .ld (.t 30)⟩,
      ⟨some 32, none, .mv (.t 5)⟩,
      ⟨some 33, none, .fa 2 (.t 8)⟩,
      ⟨some 34, none, .ld (.t 33)⟩,
      ⟨some 35, none, .ia 1 (.t 32) (.t 34)⟩,
      ⟨some 36, none, .ld (.t 35)⟩,
      ⟨some 37, none, .mv (.t 0)⟩,
      ⟨some 38, none, .mv (.t 7)⟩,
      ⟨some 39, none, .ia 3 (.t 37) (.t 38)⟩,
      ⟨some 40, none, .fa 1 (.t 39)⟩,
      ⟨some 41, none, .ld (.t 40)⟩,
      ⟨some 42, none, .mn (.t 36) (.t 41)⟩,
      ⟨some 43, none, .ia 1 (.t 29) (.t 31)⟩,
      ⟨none, none, .st 1 (.t 43) (.t 42)⟩])
    (.skip)))))
    (.ops [⟨some 44, none, .bin .add (.t 21) (.k (.i .i64 1))⟩,
      ⟨some 21, none, .mv (.t 44)⟩])))
def l1_impl_ceilings : LC := .seq (.ops [⟨some 13, none, .bin .lss (.t 12) (.t 11)⟩])
    (.seq (.cond (.t 13) (.skip)
    (.exit 0))
    (.seq (.block 1 (.seq (.ops [⟨some 14, none, .mv (.t 12)⟩,
      ⟨some 6, none, .mv (.t 14)⟩])
    (.ops [⟨some 15, none, .mv (.t 5)⟩,
      ⟨some 16, none, .mv (.t 6)⟩,
      ⟨some 17, none, .ia 1 (.t 15) (.t 16)⟩,
      ⟨none, none, .st 1 (.t 17) (.k (.i .i64 13))⟩])))
    (.ops [⟨some 18, none, .bin .add (.t 12) (.k (.i .i64 1))⟩,
      ⟨some 12, none, .mv (.t 18)⟩])))
def c_impl_ceilings : LC := .seq (.ops [⟨some 4, none, .mv (.k (.sn))⟩])
    (.seq (.ops [⟨some 9, none, .msl ty_int 8 [.i .i64 0] (.k (.i .i64 3))⟩,
      ⟨some 5, none, .mv (.t 9)⟩])
    (.seq (.seq (.ops [⟨some 10, none, .mv (.t 5)⟩,
      ⟨some 11, none, .len (.t 10)⟩,
      ⟨some 12, none, .mv (.k (.i .i64 0))⟩])
    (.block 0 (.loop l1_impl_ceilings)))
    (.seq (.seq (.ops [⟨some 19, none, .mv (.t 1)⟩,
      ⟨some 20, none, .len (.t 19)⟩,
      ⟨some 21, none, .mv (.k (.i .i64 0))⟩])
    (.block 2 (.loop l0_impl_ceilings)))
    (.seq (.ops [⟨some 45, none, .mv (.t 5)⟩,
      ⟨some 4, none, .mv (.t 45)⟩])
    (.ret)))))
theorem k_impl_ceilings : chkF Try.prog Try.f41 46 c_impl_ceilings [.t 4] = true := by kernel_rfl
theorem call_impl_ceilings {args : List AV} {σ : List AB} {K : AV → List AB → Prop} (hn : args.length ≤ 46) (hw : wpC Try.prog σ.length 46 c_impl_ceilings (retP σ.length [.t 4] K) ⟨initT 0 args, σ⟩) : CallWp Try.prog n_impl_ceilings args σ K := call_fn mixed Try.func41 k_impl_ceilings hn hw

-- loop.example/deadlinescheduler/impl.simulate
-- region 6 draws, 7 of 9 first
-- region 9 draws, 13 of 13 first
-- region 10 draws, 8 of 10 first
-- l0_impl_simulate: live at the head: 0 1 4 5 6
def l0_impl_simulate : LC := .seq (.seq (.ops [⟨some 15, none, .mv (.t 5)⟩,
      ⟨some 16, none, .nilc (.t 15)⟩,
      ⟨some 17, none, .fa 2 (.t 16)⟩,
      ⟨some 18, none, .ld (.t 17)⟩,
      ⟨some 19, none, .bin .lss (.t 18) (.k (.i .i64 120))⟩])
    (.cond (.t 19) (.skip)
    (.exit 0)))
    (.seq (.block 1 (.seq (.ops [⟨some 27, none, .mv (.t 1)⟩,
      ⟨some 28, none, .mv (.t 5)⟩,
      ⟨some 29, none, .call (.t 27) [.t 28]⟩,
      ⟨some 7, none, .mv (.t 29)⟩])
    (.seq (.draw 7 [⟨some 30, none, .fa 0 (.t 6)⟩,
      ⟨some 31, none, .ld (.t 30)⟩,
      ⟨some 32, none, .mv (.t 5)⟩,
      ⟨some 33, none, .nilc (.t 32)⟩,
      ⟨some 34, none, .fa 2 (.t 33)⟩,
      ⟨some 35, none, .ld (.t 34)⟩,
      ⟨some 36, none, .mv (.t 7)⟩,
      ⟨some 37, none, .ia 1 (.t 31) (.t 35)⟩,
      ⟨none, none, .st 1 (.t 37) (.t 36)⟩])
    (.seq (.seq (.ops [⟨some 38, none, .mv (.t 7)⟩,
      ⟨some 39, none, .bin .lss (.t 38) (.k (.i .i64 0))⟩])
    (.cond (.t 39) (.exit 1)
    (.skip)))
    (.seq (.ops [⟨some 40, none, .mv (.t 5)⟩,
      ⟨some 41, none, .nilc (.t 40)⟩,
      ⟨some 42, none, .fa 1 (.t 41)⟩,
      ⟨some 43, none, .ld (.t 42)⟩,
      ⟨some 44, none, .mv (.t 7)⟩,
      ⟨some 45, none, .ia 1 (.t 43) (.t 44)⟩,
      ⟨some 46, none, .ld (.t 45)⟩,
      ⟨some 47, none, .bin .add (.t 46) (.k (.i .i64 1))⟩,
      ⟨some 48, none, .ia 1 (.t 43) (.t 44)⟩,
      ⟨none, none, .st 1 (.t 48) (.t 47)⟩])
    (.seq (.draw 13 [⟨some 49, none, .mv (.t 5)⟩,
      ⟨some 50, none, .nilc (.t 49)⟩,
      ⟨some 51, none, .fa 1 (.t 50)⟩,
      ⟨some 52, none, .ld (.t 51)⟩,
      ⟨some 53, none, .mv (.t 7)⟩,
      ⟨some 54, none, .ia 1 (.t 52) (.t 53)⟩,
      ⟨some 55, none, .ld (.t 54)⟩,
      ⟨some 56, none, .mv (.t 0)⟩,
      ⟨some 57, none, .mv (.t 7)⟩,
      ⟨some 58, none, .ia 4 (.t 56) (.t 57)⟩,
      ⟨some 59, none, .fa 3 (.t 58)⟩,
      ⟨some 60, none, .ld (.t 59)⟩,
      ⟨some 61, none, .bin .eql (.t 55) (.t 60)⟩])
    (.cond (.t 61) (.draw 8 [⟨some 62, none, .fa 1 (.t 6)⟩,
      ⟨some 63, none, .ld (.t 62)⟩,
      ⟨some 64, none, .mv (.t 7)⟩,
      ⟨some 65, none, .mv (.t 5)⟩,
      ⟨some 66, none, .nilc (.t 65)⟩,
      ⟨some 67, none, .fa 2 (.t 66)⟩,
      ⟨some 68, none, .ld (.t 67)⟩,
      ⟨some 69, none, .bin .add (.t 68) (.k (.i .i64 1))⟩,
      ⟨some 70, none, .ia 1 (.t 63) (.t 64)⟩,
      ⟨none, none, .st 1 (.t 70) (.t 69)⟩])
    (.skip))))))))
    (.ops [⟨some 20, none, .mv (.t 5)⟩,
      ⟨some 21, none, .nilc (.t 20)⟩,
      ⟨some 22, none, .fa 2 (.t 21)⟩,
      ⟨some 23, none, .ld (.t 22)⟩,
      ⟨some 24, none, .bin .add (.t 23) (.k (.i .i64 1))⟩,
      ⟨some 25, none, .nilc (.t 20)⟩,
      ⟨some 26, none, .fa 2 (.t 25)⟩,
      ⟨none, none, .st 1 (.t 26) (.t 24)⟩]))
def c_impl_simulate : LC := .seq (.ops [⟨some 4, none, .alloc ty_impl_Schedule [.sn, .sn]⟩])
    (.seq (.ops [⟨some 8, none, .mv (.t 0)⟩,
      ⟨some 9, none, .call (.k (.fn n_impl_newMachine [] [])) [.t 8]⟩,
      ⟨some 5, none, .mv (.t 9)⟩])
    (.seq (.ops [⟨some 10, none, .call (.k (.fn n_impl_none [] [])) [.k (.i .i64 120)]⟩,
      ⟨some 11, none, .mv (.t 0)⟩,
      ⟨some 12, none, .len (.t 11)⟩,
      ⟨some 13, none, .call (.k (.fn n_impl_none [] [])) [.t 12]⟩,
      ⟨some 14, none, .build [.sn, .sn] [(0, 1, .t 10), (1, 1, .t 13)]⟩,
      ⟨some 6, none, .alloc ty_impl_Schedule [.sn, .sn]⟩,
      ⟨none, none, .st 2 (.t 6) (.t 14)⟩])
    (.seq (.block 0 (.loop l0_impl_simulate))
    (.seq (.ops [⟨some 71, none, .ldn 2 (.t 6)⟩,
      ⟨none, none, .st 2 (.t 4) (.t 71)⟩])
    (.ret)))))
theorem k_impl_simulate : chkF Try.prog Try.f42 72 c_impl_simulate [.c 4 (some 2)] = true := by kernel_rfl
theorem call_impl_simulate {args : List AV} {σ : List AB} {K : AV → List AB → Prop} (hn : args.length ≤ 72) (hw : wpC Try.prog σ.length 72 c_impl_simulate (retP σ.length [.c 4 (some 2)] K) ⟨initT 0 args, σ⟩) : CallWp Try.prog n_impl_simulate args σ K := call_fn mixed Try.func42 k_impl_simulate hn hw
theorem callC_impl_simulate {args : List AV} {σ : List AB} {K : AV → List AB → Prop} (hn : args.length ≤ 72) (hw : Closed σ → args.all (below1 σ.length) = true → wpC Try.prog σ.length 72 c_impl_simulate (retP σ.length [.c 4 (some 2)] K) ⟨initT 0 args, σ⟩) : CallWp Try.prog n_impl_simulate args σ K := call_fnC mixed Try.func42 k_impl_simulate hn hw

-- loop.example/deadlinescheduler/impl.RunResources$1
-- region 8: a plan with 1 orders
-- region 9 draws, 30 of 30 first
-- region 12 draws, 11 of 11 first
-- l0_impl_RunResources_1: live at the head: 1 2 3 4 5 7 8 27 28 43 44 45 46 47 48 49 50 51 52 55 56 57 58 59 60 61 62 63 64 65 66 67
def l0_impl_RunResources_1 : LC := .seq (.ops [⟨some 29, none, .bin .lss (.t 28) (.t 27)⟩])
    (.seq (.cond (.t 29) (.skip)
    (.exit 0))
    (.seq (.block 1 (.seq (.ops [⟨some 30, none, .mv (.t 28)⟩,
      ⟨some 9, none, .mv (.t 30)⟩])
    (.seq (.plan [0, 1, 2, 3, 4, 5, 6, 7] [⟨some 31, none, .ld (.t 2)⟩,
      ⟨some 32, none, .ld (.t 1)⟩,
      ⟨some 33, none, .mv (.t 9)⟩,
      ⟨some 34, none, .ia 4 (.t 32) (.t 33)⟩,
      ⟨some 35, none, .fa 0 (.t 34)⟩,
      ⟨some 36, none, .ld (.t 35)⟩,
      ⟨some 37, none, .ia 3 (.t 31) (.t 36)⟩,
      ⟨some 38, none, .ldn 3 (.t 37)⟩]
      (.one 8 ⟨some 10, none, .alloc ty_impl_Section [.i .i64 0, .i .i64 0, .i .i64 0]⟩ [(31, none, 2), (32, none, 1), (36, none, 35), (38, some 3, 37)] []
        []
      (.one 9 ⟨none, none, .st 3 (.t 10) (.t 38)⟩ [] []
        []
      .fin)))
    (.seq (.draw 30 [⟨some 39, none, .ld (.t 5)⟩,
      ⟨some 40, none, .mv (.t 9)⟩,
      ⟨some 41, none, .call (.k (.fn n_impl_machine_ready [] [])) [.t 39, .t 40]⟩,
      ⟨some 42, none, .mv (.t 41)⟩,
      ⟨some 43, (some (42, true)), .ld (.t 5)⟩,
      ⟨some 44, (some (42, true)), .nilc (.t 43)⟩,
      ⟨some 45, (some (42, true)), .fa 1 (.t 44)⟩,
      ⟨some 46, (some (42, true)), .ld (.t 45)⟩,
      ⟨some 47, (some (42, true)), .mv (.t 9)⟩,
      ⟨some 48, (some (42, true)), .ia 1 (.t 46) (.t 47)⟩,
      ⟨some 49, (some (42, true)), .ld (.t 48)⟩,
      ⟨some 50, (some (42, true)), .fa 0 (.t 10)⟩,
      ⟨some 51, (some (42, true)), .ld (.t 50)⟩,
      ⟨some 52, (some (42, true)), .bin .gtr (.t 49) (.t 51)⟩,
      ⟨some 53, none, .pick (.t 42) (.t 52) (.k (.b false))⟩,
      ⟨some 54, none, .mv (.t 53)⟩,
      ⟨some 55, (some (54, true)), .ld (.t 5)⟩,
      ⟨some 56, (some (54, true)), .nilc (.t 55)⟩,
      ⟨some 57, (some (54, true)), .fa 1 (.t 56)⟩,
      ⟨some 58, (some (54, true)), .ld (.t 57)⟩,
      ⟨some 59, (some (54, true)), .mv (.t 9)⟩,
      ⟨some 60, (some (54, true)), .ia 1 (.t 58) (.t 59)⟩,
      ⟨some 61, (some (54, true)), .ld (.t 60)⟩,
      ⟨some 62, (some (54, true)), .fa 0 (.t 10)⟩,
      ⟨some 63, (some (54, true)), .ld (.t 62)⟩,
      ⟨some 64, (some (54, true)), .fa 1 (.t 10)⟩,
      ⟨some 65, (some (54, true)), .ld (.t 64)⟩,
      ⟨some 66, (some (54, true)), .bin .add (.t 63) (.t 65)⟩,
      ⟨some 67, (some (54, true)), .bin .lss (.t 61) (.t 66)⟩,
      ⟨some 68, none, .pick (.t 54) (.t 67) (.k (.b false))⟩])
    (.cond (.t 68) (.ops [⟨some 69, none, .mv (.t 8)⟩,
      ⟨some 70, none, .ld (.t 3)⟩,
      ⟨some 71, none, .fa 2 (.t 10)⟩,
      ⟨some 72, none, .ld (.t 71)⟩,
      ⟨some 73, none, .ia 1 (.t 70) (.t 72)⟩,
      ⟨some 74, none, .ld (.t 73)⟩,
      ⟨some 75, none, .mn (.t 69) (.t 74)⟩,
      ⟨some 8, none, .mv (.t 75)⟩])
    (.skip))))))
    (.ops [⟨some 76, none, .bin .add (.t 28) (.k (.i .i64 1))⟩,
      ⟨some 28, none, .mv (.t 76)⟩])))
def c_impl_RunResources_1 : LC := .seq (.ops [⟨some 5, none, .box ty_ptr_impl_machine (.t 0)⟩,
      ⟨some 6, none, .mv (.k (.i .i64 0))⟩])
    (.seq (.ops [⟨some 11, none, .ld (.t 5)⟩,
      ⟨some 12, none, .call (.k (.fn n_impl_edf [] [])) [.t 11]⟩,
      ⟨some 7, none, .mv (.t 12)⟩])
    (.seq (.seq (.ops [⟨some 13, none, .mv (.t 7)⟩,
      ⟨some 14, none, .bin .lss (.t 13) (.k (.i .i64 0))⟩,
      ⟨some 15, none, .mv (.t 14)⟩,
      ⟨some 16, (some (15, false)), .ld (.t 5)⟩,
      ⟨some 17, (some (15, false)), .nilc (.t 16)⟩,
      ⟨some 18, (some (15, false)), .fa 1 (.t 17)⟩,
      ⟨some 19, (some (15, false)), .ld (.t 18)⟩,
      ⟨some 20, (some (15, false)), .mv (.t 7)⟩,
      ⟨some 21, (some (15, false)), .ia 1 (.t 19) (.t 20)⟩,
      ⟨some 22, (some (15, false)), .ld (.t 21)⟩,
      ⟨some 23, (some (15, false)), .bin .gtr (.t 22) (.k (.i .i64 0))⟩,
      ⟨some 24, none, .pick (.t 15) (.k (.b true)) (.t 23)⟩])
    (.cond (.t 24) (.seq (.ops [⟨some 25, none, .mv (.t 7)⟩,
      ⟨some 6, none, .mv (.t 25)⟩])
    (.ret))
    (.skip)))
    (.seq (.ops [⟨some 8, none, .mv (.k (.i .i64 13))⟩])
    (.seq (.seq (.ops [⟨some 26, none, .ld (.t 1)⟩,
      ⟨some 27, none, .len (.t 26)⟩,
      ⟨some 28, none, .mv (.k (.i .i64 0))⟩])
    (.block 0 (.loop l0_impl_RunResources_1)))
    (.seq (.seq (.draw 11 [⟨some 77, none, .ld (.t 4)⟩,
      ⟨some 78, none, .ld (.t 1)⟩,
      ⟨some 79, none, .mv (.t 7)⟩,
      ⟨some 80, none, .ia 4 (.t 78) (.t 79)⟩,
      ⟨some 81, none, .fa 0 (.t 80)⟩,
      ⟨some 82, none, .ld (.t 81)⟩,
      ⟨some 83, none, .ia 3 (.t 77) (.t 82)⟩,
      ⟨some 84, none, .fa 1 (.t 83)⟩,
      ⟨some 85, none, .ld (.t 84)⟩,
      ⟨some 86, none, .mv (.t 8)⟩,
      ⟨some 87, none, .bin .lss (.t 85) (.t 86)⟩])
    (.cond (.t 87) (.seq (.ops [⟨some 88, none, .mv (.t 7)⟩,
      ⟨some 6, none, .mv (.t 88)⟩])
    (.ret))
    (.skip)))
    (.seq (.ops [⟨some 89, none, .ld (.t 5)⟩,
      ⟨some 90, none, .ld (.t 5)⟩,
      ⟨some 91, none, .mkf n_impl_machine_deadline [.t 90] []⟩,
      ⟨some 92, none, .mkf n_impl_RunResources_1_1 [] [.t 5]⟩,
      ⟨some 93, none, .call (.k (.fn n_impl_machine_best [] [])) [.t 89, .t 91, .t 92]⟩,
      ⟨some 6, none, .mv (.t 93)⟩])
    (.ret)))))))
theorem k_impl_RunResources_1 : chkF Try.prog Try.f43 94 c_impl_RunResources_1 [.t 6] = true := by kernel_rfl
theorem call_impl_RunResources_1 {args : List AV} {σ : List AB} {K : AV → List AB → Prop} (hn : args.length ≤ 94) (hw : wpC Try.prog σ.length 94 c_impl_RunResources_1 (retP σ.length [.t 6] K) ⟨initT 0 args, σ⟩) : CallWp Try.prog n_impl_RunResources_1 args σ K := call_fn mixed Try.func43 k_impl_RunResources_1 hn hw
theorem callC_impl_RunResources_1 {args : List AV} {σ : List AB} {K : AV → List AB → Prop} (hn : args.length ≤ 94) (hw : Closed σ → args.all (below1 σ.length) = true → wpC Try.prog σ.length 94 c_impl_RunResources_1 (retP σ.length [.t 6] K) ⟨initT 0 args, σ⟩) : CallWp Try.prog n_impl_RunResources_1 args σ K := call_fnC mixed Try.func43 k_impl_RunResources_1 hn hw

-- loop.example/deadlinescheduler/impl.edf
def c_impl_edf : LC := .seq (.ops [⟨some 2, none, .mv (.k (.i .i64 0))⟩])
    (.seq (.ops [⟨some 3, none, .mv (.t 0)⟩,
      ⟨some 4, none, .mv (.t 0)⟩,
      ⟨some 5, none, .mkf n_impl_machine_deadline [.t 4] []⟩,
      ⟨some 6, none, .mv (.t 0)⟩,
      ⟨some 7, none, .mkf n_impl_machine_any [.t 6] []⟩,
      ⟨some 8, none, .call (.k (.fn n_impl_machine_best [] [])) [.t 3, .t 5, .t 7]⟩,
      ⟨some 2, none, .mv (.t 8)⟩])
    (.ret))
theorem k_impl_edf : chkF Try.prog Try.f44 9 c_impl_edf [.t 2] = true := by kernel_rfl
theorem call_impl_edf {args : List AV} {σ : List AB} {K : AV → List AB → Prop} (hn : args.length ≤ 9) (hw : wpC Try.prog σ.length 9 c_impl_edf (retP σ.length [.t 2] K) ⟨initT 0 args, σ⟩) : CallWp Try.prog n_impl_edf args σ K := call_fn mixed Try.func44 k_impl_edf hn hw

-- (*loop.example/deadlinescheduler/impl.machine).ready
-- region 1 draws, 31 of 32 first
def c_impl_machine_ready : LC := .seq (.ops [⟨some 4, none, .mv (.k (.b false))⟩])
    (.seq (.draw 31 [⟨some 5, none, .mv (.t 0)⟩,
      ⟨some 6, none, .nilc (.t 5)⟩,
      ⟨some 7, none, .fa 0 (.t 6)⟩,
      ⟨some 8, none, .ld (.t 7)⟩,
      ⟨some 9, none, .mv (.t 1)⟩,
      ⟨some 10, none, .ia 4 (.t 8) (.t 9)⟩,
      ⟨some 11, none, .fa 1 (.t 10)⟩,
      ⟨some 12, none, .ld (.t 11)⟩,
      ⟨some 13, none, .mv (.t 0)⟩,
      ⟨some 14, none, .nilc (.t 13)⟩,
      ⟨some 15, none, .fa 2 (.t 14)⟩,
      ⟨some 16, none, .ld (.t 15)⟩,
      ⟨some 17, none, .bin .leq (.t 12) (.t 16)⟩,
      ⟨some 18, none, .mv (.t 17)⟩,
      ⟨some 19, (some (18, true)), .mv (.t 0)⟩,
      ⟨some 20, (some (18, true)), .nilc (.t 19)⟩,
      ⟨some 21, (some (18, true)), .fa 1 (.t 20)⟩,
      ⟨some 22, (some (18, true)), .ld (.t 21)⟩,
      ⟨some 23, (some (18, true)), .mv (.t 1)⟩,
      ⟨some 24, (some (18, true)), .ia 1 (.t 22) (.t 23)⟩,
      ⟨some 25, (some (18, true)), .ld (.t 24)⟩,
      ⟨some 26, (some (18, true)), .mv (.t 0)⟩,
      ⟨some 27, (some (18, true)), .nilc (.t 26)⟩,
      ⟨some 28, (some (18, true)), .fa 0 (.t 27)⟩,
      ⟨some 29, (some (18, true)), .ld (.t 28)⟩,
      ⟨some 30, (some (18, true)), .mv (.t 1)⟩,
      ⟨some 31, (some (18, true)), .ia 4 (.t 29) (.t 30)⟩,
      ⟨some 32, (some (18, true)), .fa 3 (.t 31)⟩,
      ⟨some 33, (some (18, true)), .ld (.t 32)⟩,
      ⟨some 34, (some (18, true)), .bin .lss (.t 25) (.t 33)⟩,
      ⟨some 35, none, .pick (.t 18) (.t 34) (.k (.b false))⟩,
      ⟨some 4, none, .mv (.t 35)⟩])
    (.ret))
theorem k_impl_machine_ready : chkF Try.prog Try.f45 36 c_impl_machine_ready [.t 4] = true := by kernel_rfl
theorem call_impl_machine_ready {args : List AV} {σ : List AB} {K : AV → List AB → Prop} (hn : args.length ≤ 36) (hw : wpC Try.prog σ.length 36 c_impl_machine_ready (retP σ.length [.t 4] K) ⟨initT 0 args, σ⟩) : CallWp Try.prog n_impl_machine_ready args σ K := call_fn mixed Try.func45 k_impl_machine_ready hn hw

-- (*loop.example/deadlinescheduler/impl.machine).best
-- l0_impl_machine_best: live at the head: 0 1 2 7 13 14 21 22 23 26 27 28 29 30 31 32 33 34 35 36
def l0_impl_machine_best : LC := .seq (.ops [⟨some 15, none, .bin .lss (.t 14) (.t 13)⟩])
    (.seq (.cond (.t 15) (.skip)
    (.exit 0))
    (.seq (.block 1 (.seq (.ops [⟨some 16, none, .mv (.t 14)⟩,
      ⟨some 8, none, .mv (.t 16)⟩])
    (.seq (.ops [⟨some 17, none, .mv (.t 0)⟩,
      ⟨some 18, none, .mv (.t 8)⟩,
      ⟨some 19, none, .call (.k (.fn n_impl_machine_ready [] [])) [.t 17, .t 18]⟩,
      ⟨some 20, none, .mv (.t 19)⟩,
      ⟨some 21, (some (20, true)), .mv (.t 2)⟩,
      ⟨some 22, (some (20, true)), .mv (.t 8)⟩,
      ⟨some 23, (some (20, true)), .call (.t 21) [.t 22]⟩,
      ⟨some 24, none, .pick (.t 20) (.t 23) (.k (.b false))⟩,
      ⟨some 25, none, .mv (.t 24)⟩,
      ⟨some 26, (some (25, true)), .mv (.t 7)⟩,
      ⟨some 27, (some (25, true)), .bin .lss (.t 26) (.k (.i .i64 0))⟩,
      ⟨some 28, (some (25, true)), .mv (.t 27)⟩,
      ⟨some 29, (some (28, false)), .mv (.t 1)⟩,
      ⟨some 30, (some (28, false)), .mv (.t 8)⟩,
      ⟨some 31, (some (28, false)), .call (.t 29) [.t 30]⟩,
      ⟨some 32, (some (28, false)), .mv (.t 1)⟩,
      ⟨some 33, (some (28, false)), .mv (.t 7)⟩,
      ⟨some 34, (some (28, false)), .call (.t 32) [.t 33]⟩,
      ⟨some 35, (some (28, false)), .bin .lss (.t 31) (.t 34)⟩,
      ⟨some 36, (some (25, true)), .pick (.t 28) (.k (.b true)) (.t 35)⟩,
      ⟨some 37, none, .pick (.t 25) (.t 36) (.k (.b false))⟩])
    (.cond (.t 37) (.ops [⟨some 38, none, .mv (.t 8)⟩,
      ⟨some 7, none, .mv (.t 38)⟩])
    (.skip)))))
    (.ops [⟨some 39, none, .bin .add (.t 14) (.k (.i .i64 1))⟩,
      ⟨some 14, none, .mv (.t 39)⟩])))
def c_impl_machine_best : LC := .seq (.ops [⟨some 6, none, .mv (.k (.i .i64 0))⟩])
    (.seq (.ops [⟨some 7, none, .mv (.k (.i .i64 (-1)))⟩])
    (.seq (.seq (.ops [⟨some 9, none, .mv (.t 0)⟩,
      ⟨some 10, none, .nilc (.t 9)⟩,
      ⟨some 11, none, .fa 0 (.t 10)⟩,
      ⟨some 12, none, .ld (.t 11)⟩,
      ⟨some 13, none, .len (.t 12)⟩,
      ⟨some 14, none, .mv (.k (.i .i64 0))⟩])
    (.block 0 (.loop l0_impl_machine_best)))
    (.seq (.ops [⟨some 40, none, .mv (.t 7)⟩,
      ⟨some 6, none, .mv (.t 40)⟩])
    (.ret))))
theorem k_impl_machine_best : chkF Try.prog Try.f46 41 c_impl_machine_best [.t 6] = true := by kernel_rfl
theorem call_impl_machine_best {args : List AV} {σ : List AB} {K : AV → List AB → Prop} (hn : args.length ≤ 41) (hw : wpC Try.prog σ.length 41 c_impl_machine_best (retP σ.length [.t 6] K) ⟨initT 0 args, σ⟩) : CallWp Try.prog n_impl_machine_best args σ K := call_fn mixed Try.func46 k_impl_machine_best hn hw

-- (*loop.example/deadlinescheduler/impl.machine).deadline
def c_impl_machine_deadline : LC := .seq (.ops [⟨some 4, none, .mv (.k (.i .i64 0))⟩])
    (.seq (.ops [⟨some 5, none, .mv (.t 0)⟩,
      ⟨some 6, none, .nilc (.t 5)⟩,
      ⟨some 7, none, .fa 0 (.t 6)⟩,
      ⟨some 8, none, .ld (.t 7)⟩,
      ⟨some 9, none, .mv (.t 1)⟩,
      ⟨some 10, none, .ia 4 (.t 8) (.t 9)⟩,
      ⟨some 11, none, .fa 2 (.t 10)⟩,
      ⟨some 12, none, .ld (.t 11)⟩,
      ⟨some 4, none, .mv (.t 12)⟩])
    (.ret))
theorem k_impl_machine_deadline : chkF Try.prog Try.f47 13 c_impl_machine_deadline [.t 4] = true := by kernel_rfl
theorem call_impl_machine_deadline {args : List AV} {σ : List AB} {K : AV → List AB → Prop} (hn : args.length ≤ 13) (hw : wpC Try.prog σ.length 13 c_impl_machine_deadline (retP σ.length [.t 4] K) ⟨initT 0 args, σ⟩) : CallWp Try.prog n_impl_machine_deadline args σ K := call_fn mixed Try.func47 k_impl_machine_deadline hn hw

-- loop.example/deadlinescheduler/impl.RunResources$1$1
def c_impl_RunResources_1_1 : LC := .seq (.ops [⟨some 3, none, .mv (.k (.b false))⟩])
    (.seq (.ops [⟨some 4, none, .ld (.t 1)⟩,
      ⟨some 5, none, .nilc (.t 4)⟩,
      ⟨some 6, none, .fa 1 (.t 5)⟩,
      ⟨some 7, none, .ld (.t 6)⟩,
      ⟨some 8, none, .mv (.t 0)⟩,
      ⟨some 9, none, .ia 1 (.t 7) (.t 8)⟩,
      ⟨some 10, none, .ld (.t 9)⟩,
      ⟨some 11, none, .bin .gtr (.t 10) (.k (.i .i64 0))⟩,
      ⟨some 3, none, .mv (.t 11)⟩])
    (.ret))
theorem k_impl_RunResources_1_1 : chkF Try.prog Try.f48 12 c_impl_RunResources_1_1 [.t 3] = true := by kernel_rfl
theorem call_impl_RunResources_1_1 {args : List AV} {σ : List AB} {K : AV → List AB → Prop} (hn : args.length ≤ 12) (hw : wpC Try.prog σ.length 12 c_impl_RunResources_1_1 (retP σ.length [.t 3] K) ⟨initT 0 args, σ⟩) : CallWp Try.prog n_impl_RunResources_1_1 args σ K := call_fn mixed Try.func48 k_impl_RunResources_1_1 hn hw

-- loop.example/deadlinescheduler/laws.sameInts
-- region 6 draws, 9 of 9 first
-- l0_laws_sameInts: live at the head: 0 1 5
def l0_laws_sameInts : LC := .seq (.seq (.ops [⟨some 11, none, .mv (.t 5)⟩,
      ⟨some 12, none, .mv (.t 0)⟩,
      ⟨some 13, none, .len (.t 12)⟩,
      ⟨some 14, none, .bin .lss (.t 11) (.t 13)⟩])
    (.cond (.t 14) (.skip)
    (.exit 0)))
    (.seq (.block 1 (.seq (.draw 9 [⟨some 17, none, .mv (.t 0)⟩,
      ⟨some 18, none, .mv (.t 5)⟩,
      ⟨some 19, none, .ia 1 (.t 17) (.t 18)⟩,
      ⟨some 20, none, .ld (.t 19)⟩,
      ⟨some 21, none, .mv (.t 1)⟩,
      ⟨some 22, none, .mv (.t 5)⟩,
      ⟨some 23, none, .ia 1 (.t 21) (.t 22)⟩,
      ⟨some 24, none, .ld (.t 23)⟩,
      ⟨some 25, none, .bin .neq (.t 20) (.t 24)⟩])
    (.cond (.t 25) (.seq (.ops [⟨some 4, none, .mv (.k (.b false))⟩])
    (.ret))
    (.skip))))
    (.ops [⟨some 15, none, .mv (.t 5)⟩,
      ⟨some 16, none, .bin .add (.t 15) (.k (.i .i64 1))⟩,
      ⟨some 5, none, .mv (.t 16)⟩]))
def c_laws_sameInts : LC := .seq (.ops [⟨some 4, none, .mv (.k (.b false))⟩])
    (.seq (.seq (.ops [⟨some 6, none, .mv (.t 0)⟩,
      ⟨some 7, none, .len (.t 6)⟩,
      ⟨some 8, none, .mv (.t 1)⟩,
      ⟨some 9, none, .len (.t 8)⟩,
      ⟨some 10, none, .bin .neq (.t 7) (.t 9)⟩])
    (.cond (.t 10) (.seq (.ops [⟨some 4, none, .mv (.k (.b false))⟩])
    (.ret))
    (.skip)))
    (.seq (.seq (.ops [⟨some 5, none, .mv (.k (.i .i64 0))⟩])
    (.block 0 (.loop l0_laws_sameInts)))
    (.seq (.ops [⟨some 4, none, .mv (.k (.b true))⟩])
    (.ret))))
theorem k_laws_sameInts : chkF Try.prog Try.f49 26 c_laws_sameInts [.t 4] = true := by kernel_rfl
theorem call_laws_sameInts {args : List AV} {σ : List AB} {K : AV → List AB → Prop} (hn : args.length ≤ 26) (hw : wpC Try.prog σ.length 26 c_laws_sameInts (retP σ.length [.t 4] K) ⟨initT 0 args, σ⟩) : CallWp Try.prog n_laws_sameInts args σ K := call_fn mixed Try.func49 k_laws_sameInts hn hw

-- loop.example/deadlinescheduler/spec.SectionsValid
-- region 7 draws, 44 of 44 first
-- l0_spec_SectionsValid: live at the head: 0 1 5 31 32 33 34 35 36 37 38 41 42 43 44 45 46 47 48 49 52 53 54 55 56 57 58 59 60 61 62 63 66 67 68 69
def l0_spec_SectionsValid : LC := .seq (.seq (.ops [⟨some 17, none, .mv (.t 5)⟩,
      ⟨some 18, none, .mv (.t 1)⟩,
      ⟨some 19, none, .len (.t 18)⟩,
      ⟨some 20, none, .bin .lss (.t 17) (.t 19)⟩])
    (.cond (.t 20) (.skip)
    (.exit 0)))
    (.seq (.block 1 (.seq (.ops [⟨some 23, none, .mv (.t 1)⟩,
      ⟨some 24, none, .mv (.t 5)⟩,
      ⟨some 25, none, .ia 3 (.t 23) (.t 24)⟩,
      ⟨some 26, none, .ldn 3 (.t 25)⟩,
      ⟨some 6, none, .alloc ty_impl_Section [.i .i64 0, .i .i64 0, .i .i64 0]⟩,
      ⟨none, none, .st 3 (.t 6) (.t 26)⟩])
    (.seq (.draw 44 [⟨some 27, none, .fa 1 (.t 6)⟩,
      ⟨some 28, none, .ld (.t 27)⟩,
      ⟨some 29, none, .bin .eql (.t 28) (.k (.i .i64 0))⟩,
      ⟨some 30, none, .mv (.t 29)⟩,
      ⟨some 31, (some (30, true)), .fa 0 (.t 6)⟩,
      ⟨some 32, (some (30, true)), .ld (.t 31)⟩,
      ⟨some 33, (some (30, true)), .bin .neq (.t 32) (.k (.i .i64 0))⟩,
      ⟨some 34, (some (30, true)), .mv (.t 33)⟩,
      ⟨some 35, (some (34, false)), .fa 2 (.t 6)⟩,
      ⟨some 36, (some (34, false)), .ld (.t 35)⟩,
      ⟨some 37, (some (34, false)), .bin .neq (.t 36) (.k (.i .i64 0))⟩,
      ⟨some 38, (some (30, true)), .pick (.t 34) (.k (.b true)) (.t 37)⟩,
      ⟨some 39, none, .pick (.t 30) (.t 38) (.k (.b false))⟩,
      ⟨some 40, none, .mv (.t 39)⟩,
      ⟨some 41, (some (40, false)), .fa 1 (.t 6)⟩,
      ⟨some 42, (some (40, false)), .ld (.t 41)⟩,
      ⟨some 43, (some (40, false)), .mv (.t 0)⟩,
      ⟨some 44, (some (40, false)), .mv (.t 5)⟩,
      ⟨some 45, (some (40, false)), .ia 3 (.t 43) (.t 44)⟩,
      ⟨some 46, (some (40, false)), .fa 0 (.t 45)⟩,
      ⟨some 47, (some (40, false)), .ld (.t 46)⟩,
      ⟨some 48, (some (40, false)), .call (.k (.fn n_spec_l1In [] [])) [.t 42, .k (.i .i64 0), .t 47]⟩,
      ⟨some 49, (some (40, false)), .not (.t 48)⟩,
      ⟨some 50, none, .pick (.t 40) (.k (.b true)) (.t 49)⟩,
      ⟨some 51, none, .mv (.t 50)⟩,
      ⟨some 52, (some (51, false)), .fa 0 (.t 6)⟩,
      ⟨some 53, (some (51, false)), .ld (.t 52)⟩,
      ⟨some 54, (some (51, false)), .mv (.t 0)⟩,
      ⟨some 55, (some (51, false)), .mv (.t 5)⟩,
      ⟨some 56, (some (51, false)), .ia 3 (.t 54) (.t 55)⟩,
      ⟨some 57, (some (51, false)), .fa 0 (.t 56)⟩,
      ⟨some 58, (some (51, false)), .ld (.t 57)⟩,
      ⟨some 59, (some (51, false)), .fa 1 (.t 6)⟩,
      ⟨some 60, (some (51, false)), .ld (.t 59)⟩,
      ⟨some 61, (some (51, false)), .bin .sub (.t 58) (.t 60)⟩,
      ⟨some 62, (some (51, false)), .call (.k (.fn n_spec_l1In [] [])) [.t 53, .k (.i .i64 0), .t 61]⟩,
      ⟨some 63, (some (51, false)), .not (.t 62)⟩,
      ⟨some 64, none, .pick (.t 51) (.k (.b true)) (.t 63)⟩,
      ⟨some 65, none, .mv (.t 64)⟩,
      ⟨some 66, (some (65, false)), .fa 2 (.t 6)⟩,
      ⟨some 67, (some (65, false)), .ld (.t 66)⟩,
      ⟨some 68, (some (65, false)), .call (.k (.fn n_spec_l1In [] [])) [.t 67, .k (.i .i64 0), .k (.i .i64 2)]⟩,
      ⟨some 69, (some (65, false)), .not (.t 68)⟩,
      ⟨some 70, none, .pick (.t 65) (.k (.b true)) (.t 69)⟩])
    (.cond (.t 70) (.seq (.ops [⟨some 4, none, .mv (.k (.b false))⟩])
    (.ret))
    (.skip)))))
    (.ops [⟨some 21, none, .mv (.t 5)⟩,
      ⟨some 22, none, .bin .add (.t 21) (.k (.i .i64 1))⟩,
      ⟨some 5, none, .mv (.t 22)⟩]))
def c_spec_SectionsValid : LC := .seq (.ops [⟨some 4, none, .mv (.k (.b false))⟩])
    (.seq (.seq (.ops [⟨some 7, none, .mv (.t 0)⟩,
      ⟨some 8, none, .call (.k (.fn n_spec_SetValid [] [])) [.t 7]⟩,
      ⟨some 9, none, .not (.t 8)⟩,
      ⟨some 10, none, .mv (.t 9)⟩,
      ⟨some 11, (some (10, false)), .mv (.t 1)⟩,
      ⟨some 12, (some (10, false)), .len (.t 11)⟩,
      ⟨some 13, (some (10, false)), .mv (.t 0)⟩,
      ⟨some 14, (some (10, false)), .len (.t 13)⟩,
      ⟨some 15, (some (10, false)), .bin .neq (.t 12) (.t 14)⟩,
      ⟨some 16, none, .pick (.t 10) (.k (.b true)) (.t 15)⟩])
    (.cond (.t 16) (.seq (.ops [⟨some 4, none, .mv (.k (.b false))⟩])
    (.ret))
    (.skip)))
    (.seq (.seq (.ops [⟨some 5, none, .mv (.k (.i .i64 0))⟩])
    (.block 0 (.loop l0_spec_SectionsValid)))
    (.seq (.ops [⟨some 4, none, .mv (.k (.b true))⟩])
    (.ret))))
theorem k_spec_SectionsValid : chkF Try.prog Try.f50 71 c_spec_SectionsValid [.t 4] = true := by kernel_rfl
theorem call_spec_SectionsValid {args : List AV} {σ : List AB} {K : AV → List AB → Prop} (hn : args.length ≤ 71) (hw : wpC Try.prog σ.length 71 c_spec_SectionsValid (retP σ.length [.t 4] K) ⟨initT 0 args, σ⟩) : CallWp Try.prog n_spec_SectionsValid args σ K := call_fn mixed Try.func50 k_spec_SectionsValid hn hw

-- loop.example/deadlinescheduler/spec.l6Best
-- region 7 draws, 13 of 13 first
-- region 8 draws, 12 of 12 first
-- region 10 draws, 19 of 19 first
-- a cut
-- l0_spec_l6Best: live at the head: 0 1 2 3 4 11 12 13 30 31 32 33 34 35 36 41 42 43 44 45 46 47 48 57 58 59 60 61 62 63 64 65 66 67 68 74 75 76 77 78 81 82 83 84 85 86 87 88 89 90 91
def l0_spec_l6Best : LC := .seq (.seq (.ops [⟨some 15, none, .mv (.t 13)⟩,
      ⟨some 16, none, .mv (.t 1)⟩,
      ⟨some 17, none, .len (.t 16)⟩,
      ⟨some 18, none, .bin .lss (.t 15) (.t 17)⟩])
    (.cond (.t 18) (.skip)
    (.exit 0)))
    (.seq (.block 1 (.seq (.ops [⟨some 21, none, .mv (.t 1)⟩,
      ⟨some 22, none, .mv (.t 13)⟩,
      ⟨some 23, none, .ia 4 (.t 21) (.t 22)⟩,
      ⟨some 24, none, .ldn 4 (.t 23)⟩,
      ⟨some 14, none, .alloc ty_impl_Job [.i .i64 0, .i .i64 0, .i .i64 0, .i .i64 0]⟩,
      ⟨none, none, .st 4 (.t 14) (.t 24)⟩])
    (.seq (.seq (.draw 13 [⟨some 25, none, .fa 1 (.t 14)⟩,
      ⟨some 26, none, .ld (.t 25)⟩,
      ⟨some 27, none, .mv (.t 4)⟩,
      ⟨some 28, none, .bin .gtr (.t 26) (.t 27)⟩,
      ⟨some 29, none, .mv (.t 28)⟩,
      ⟨some 30, (some (29, false)), .mv (.t 2)⟩,
      ⟨some 31, (some (29, false)), .mv (.t 13)⟩,
      ⟨some 32, (some (29, false)), .ia 1 (.t 30) (.t 31)⟩,
      ⟨some 33, (some (29, false)), .ld (.t 32)⟩,
      ⟨some 34, (some (29, false)), .fa 3 (.t 14)⟩,
      ⟨some 35, (some (29, false)), .ld (.t 34)⟩,
      ⟨some 36, (some (29, false)), .bin .eql (.t 33) (.t 35)⟩,
      ⟨some 37, none, .pick (.t 29) (.k (.b true)) (.t 36)⟩])
    (.cond (.t 37) (.exit 1)
    (.skip)))
    (.join (.seq (.draw 12 [⟨some 38, none, .mv (.t 11)⟩,
      ⟨some 39, none, .bin .lss (.t 38) (.k (.i .i64 0))⟩,
      ⟨some 40, none, .mv (.t 39)⟩,
      ⟨some 41, (some (40, false)), .fa 2 (.t 14)⟩,
      ⟨some 42, (some (40, false)), .ld (.t 41)⟩,
      ⟨some 43, (some (40, false)), .mv (.t 1)⟩,
      ⟨some 44, (some (40, false)), .mv (.t 11)⟩,
      ⟨some 45, (some (40, false)), .ia 4 (.t 43) (.t 44)⟩,
      ⟨some 46, (some (40, false)), .fa 2 (.t 45)⟩,
      ⟨some 47, (some (40, false)), .ld (.t 46)⟩,
      ⟨some 48, (some (40, false)), .bin .lss (.t 42) (.t 47)⟩,
      ⟨some 49, none, .pick (.t 40) (.k (.b true)) (.t 48)⟩])
    (.cond (.t 49) (.ops [⟨some 50, none, .mv (.t 13)⟩,
      ⟨some 11, none, .mv (.t 50)⟩])
    (.skip)))
    (.seq (.draw 19 [⟨some 51, none, .mv (.t 2)⟩,
      ⟨some 52, none, .mv (.t 13)⟩,
      ⟨some 53, none, .ia 1 (.t 51) (.t 52)⟩,
      ⟨some 54, none, .ld (.t 53)⟩,
      ⟨some 55, none, .bin .gtr (.t 54) (.k (.i .i64 0))⟩,
      ⟨some 56, none, .mv (.t 55)⟩,
      ⟨some 57, (some (56, true)), .mv (.t 12)⟩,
      ⟨some 58, (some (56, true)), .bin .lss (.t 57) (.k (.i .i64 0))⟩,
      ⟨some 59, (some (56, true)), .mv (.t 58)⟩,
      ⟨some 60, (some (59, false)), .fa 2 (.t 14)⟩,
      ⟨some 61, (some (59, false)), .ld (.t 60)⟩,
      ⟨some 62, (some (59, false)), .mv (.t 1)⟩,
      ⟨some 63, (some (59, false)), .mv (.t 12)⟩,
      ⟨some 64, (some (59, false)), .ia 4 (.t 62) (.t 63)⟩,
      ⟨some 65, (some (59, false)), .fa 2 (.t 64)⟩,
      ⟨some 66, (some (59, false)), .ld (.t 65)⟩,
      ⟨some 67, (some (59, false)), .bin .lss (.t 61) (.t 66)⟩,
      ⟨some 68, (some (56, true)), .pick (.t 59) (.k (.b true)) (.t 67)⟩,
      ⟨some 69, none, .pick (.t 56) (.t 68) (.k (.b false))⟩])
    (.cond (.t 69) (.ops [⟨some 70, none, .mv (.t 13)⟩,
      ⟨some 12, none, .mv (.t 70)⟩])
    (.skip)))))))
    (.ops [⟨some 19, none, .mv (.t 13)⟩,
      ⟨some 20, none, .bin .add (.t 19) (.k (.i .i64 1))⟩,
      ⟨some 13, none, .mv (.t 20)⟩]))
def c_spec_l6Best : LC := .seq (.ops [⟨some 10, none, .mv (.k (.i .i64 0))⟩])
    (.seq (.ops [⟨some 11, none, .mv (.k (.i .i64 (-1)))⟩])
    (.seq (.ops [⟨some 12, none, .mv (.k (.i .i64 (-1)))⟩])
    (.seq (.seq (.ops [⟨some 13, none, .mv (.k (.i .i64 0))⟩])
    (.block 0 (.loop l0_spec_l6Best)))
    (.seq (.seq (.ops [⟨some 71, none, .mv (.t 11)⟩,
      ⟨some 72, none, .bin .geq (.t 71) (.k (.i .i64 0))⟩,
      ⟨some 73, none, .mv (.t 72)⟩,
      ⟨some 74, (some (73, true)), .mv (.t 2)⟩,
      ⟨some 75, (some (73, true)), .mv (.t 11)⟩,
      ⟨some 76, (some (73, true)), .ia 1 (.t 74) (.t 75)⟩,
      ⟨some 77, (some (73, true)), .ld (.t 76)⟩,
      ⟨some 78, (some (73, true)), .bin .eql (.t 77) (.k (.i .i64 0))⟩,
      ⟨some 79, none, .pick (.t 73) (.t 78) (.k (.b false))⟩,
      ⟨some 80, none, .mv (.t 79)⟩,
      ⟨some 81, (some (80, true)), .mv (.t 0)⟩,
      ⟨some 82, (some (80, true)), .mv (.t 1)⟩,
      ⟨some 83, (some (80, true)), .mv (.t 11)⟩,
      ⟨some 84, (some (80, true)), .ia 4 (.t 82) (.t 83)⟩,
      ⟨some 85, (some (80, true)), .fa 0 (.t 84)⟩,
      ⟨some 86, (some (80, true)), .ld (.t 85)⟩,
      ⟨some 87, (some (80, true)), .ia 3 (.t 81) (.t 86)⟩,
      ⟨some 88, (some (80, true)), .fa 1 (.t 87)⟩,
      ⟨some 89, (some (80, true)), .ld (.t 88)⟩,
      ⟨some 90, (some (80, true)), .mv (.t 3)⟩,
      ⟨some 91, (some (80, true)), .bin .geq (.t 89) (.t 90)⟩,
      ⟨some 92, none, .pick (.t 80) (.t 91) (.k (.b false))⟩])
    (.cond (.t 92) (.seq (.ops [⟨some 93, none, .mv (.t 12)⟩,
      ⟨some 10, none, .mv (.t 93)⟩])
    (.ret))
    (.skip)))
    (.seq (.ops [⟨some 94, none, .mv (.t 11)⟩,
      ⟨some 10, none, .mv (.t 94)⟩])
    (.ret))))))
theorem k_spec_l6Best : chkF Try.prog Try.f51 95 c_spec_l6Best [.t 10] = true := by kernel_rfl
theorem call_spec_l6Best {args : List AV} {σ : List AB} {K : AV → List AB → Prop} (hn : args.length ≤ 95) (hw : wpC Try.prog σ.length 95 c_spec_l6Best (retP σ.length [.t 10] K) ⟨initT 0 args, σ⟩) : CallWp Try.prog n_spec_l6Best args σ K := call_fn mixed Try.func51 k_spec_l6Best hn hw

end Go.Proofs.Ytnlciginmeebhaa
