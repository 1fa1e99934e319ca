import Derived.Test.YtnlciginmeebhaaProg
import Derived.Test.YtnlciginmeebhaaLowA
import Derived.KernelRfl
namespace Go.Proofs.Ytnlciginmeebhaa
open Go.Abs
set_option maxRecDepth 100000
def c_impl_TaskValid : LC := .seq (.ops [⟨some 1, none, .box ty_impl_Task (.t 0)⟩,
      ⟨some 2, none, .mv (.k (.b false))⟩])
    (.seq (.ops [⟨some 3, none, .fa 0 (.t 1)⟩,
      ⟨some 4, none, .ld (.t 3)⟩,
      ⟨some 5, none, .call (.k (.fn n_impl_in [] [])) [.t 4, .k (.i .i64 1), .k (.i .i64 8)]⟩,
      ⟨some 6, none, .mv (.t 5)⟩,
      ⟨some 7, (some (6, true)), .fa 1 (.t 1)⟩,
      ⟨some 8, (some (6, true)), .ld (.t 7)⟩,
      ⟨some 9, (some (6, true)), .fa 0 (.t 1)⟩,
      ⟨some 10, (some (6, true)), .ld (.t 9)⟩,
      ⟨some 11, (some (6, true)), .fa 2 (.t 1)⟩,
      ⟨some 12, (some (6, true)), .ld (.t 11)⟩,
      ⟨some 13, (some (6, true)), .call (.k (.fn n_impl_in [] [])) [.t 8, .t 10, .t 12]⟩,
      ⟨some 14, none, .pick (.t 6) (.t 13) (.k (.b false))⟩,
      ⟨some 15, none, .mv (.t 14)⟩,
      ⟨some 16, (some (15, true)), .fa 2 (.t 1)⟩,
      ⟨some 17, (some (15, true)), .ld (.t 16)⟩,
      ⟨some 18, (some (15, true)), .bin .leq (.t 17) (.k (.i .i64 12))⟩,
      ⟨some 19, none, .pick (.t 15) (.t 18) (.k (.b false))⟩,
      ⟨some 2, none, .mv (.t 19)⟩])
    (.ret))
theorem k_impl_TaskValid : chkF Try.prog Try.f53 20 c_impl_TaskValid [.t 2] = true := by kernel_rfl
theorem call_impl_TaskValid {args : List AV} {σ : List AB} {K : AV → List AB → Prop} (hn : args.length ≤ 20) (hw : wpC Try.prog σ.length 20 c_impl_TaskValid (retP σ.length [.t 2] K) ⟨initT 0 args, σ⟩) : CallWp Try.prog n_impl_TaskValid args σ K := call_fn mixed Try.func53 k_impl_TaskValid hn hw
def c_impl_SetValid : LC := .seq (.ops [⟨some 2, none, .mv (.k (.b false))⟩])
    (.seq (.ops [⟨some 3, none, .mv (.t 0)⟩,
      ⟨some 4, none, .len (.t 3)⟩,
      ⟨some 5, none, .bin .leq (.t 4) (.k (.i .i64 5))⟩,
      ⟨some 6, none, .mv (.t 5)⟩,
      ⟨some 7, (some (6, true)), .mv (.t 0)⟩,
      ⟨some 8, (some (6, true)), .call (.k (.fn n_slices_ContainsFunc_impl_Task [] [])) [.t 7, .k (.fn n_impl_SetValid_1 [] [])]⟩,
      ⟨some 9, (some (6, true)), .not (.t 8)⟩,
      ⟨some 10, none, .pick (.t 6) (.t 9) (.k (.b false))⟩,
      ⟨some 2, none, .mv (.t 10)⟩])
    (.ret))
theorem k_impl_SetValid : chkF Try.prog Try.f56 11 c_impl_SetValid [.t 2] = true := by kernel_rfl
theorem call_impl_SetValid {args : List AV} {σ : List AB} {K : AV → List AB → Prop} (hn : args.length ≤ 11) (hw : wpC Try.prog σ.length 11 c_impl_SetValid (retP σ.length [.t 2] K) ⟨initT 0 args, σ⟩) : CallWp Try.prog n_impl_SetValid args σ K := call_fn mixed Try.func56 k_impl_SetValid hn hw
def l0_spec_l20Servers : LC := .seq (.seq (.ops [⟨some 11, none, .mv (.t 6)⟩,
      ⟨some 12, none, .bin .gtr (.t 11) (.k (.i .i64 0))⟩])
    (.cond (.t 12) (.skip)
    (.exit 0)))
    (.seq (.block 1 (.seq (.ops [⟨some 15, none, .mv (.t 0)⟩,
      ⟨some 16, none, .call (.k (.fn n_spec_l20Rd_pick [] [])) [.t 15, .k (.i .i64 12)]⟩,
      ⟨some 17, none, .bin .add (.k (.i .i64 1)) (.t 16)⟩,
      ⟨some 18, none, .bsl ty_int [.i .i64 0] 4 [(0, 1, .k (.i .i64 4)), (1, 1, .k (.i .i64 6)), (2, 1, .k (.i .i64 12)), (3, 1, .t 17)]⟩,
      ⟨some 19, none, .mv (.t 0)⟩,
      ⟨some 20, none, .call (.k (.fn n_spec_l20Rd_pick [] [])) [.t 19, .k (.i .i64 4)]⟩,
      ⟨some 21, none, .ia 1 (.t 18) (.t 20)⟩,
      ⟨some 22, none, .ld (.t 21)⟩,
      ⟨some 7, none, .mv (.t 22)⟩])
    (.ops [⟨some 23, none, .mv (.t 5)⟩,
      ⟨some 24, none, .mv (.t 0)⟩,
      ⟨some 25, none, .mv (.t 7)⟩,
      ⟨some 26, none, .bin .quo (.t 25) (.k (.i .i64 2))⟩,
      ⟨some 27, none, .mx (.k (.i .i64 1)) (.t 26)⟩,
      ⟨some 28, none, .call (.k (.fn n_spec_l20Rd_pick [] [])) [.t 24, .t 27]⟩,
      ⟨some 29, none, .bin .add (.k (.i .i64 1)) (.t 28)⟩,
      ⟨some 30, none, .mv (.t 7)⟩,
      ⟨some 31, none, .build [.i .i64 0, .i .i64 0] [(0, 1, .t 29), (1, 1, .t 30)]⟩,
      ⟨some 32, none, .bsl ty_impl_Server [.i .i64 0, .i .i64 0] 1 [(0, 2, .t 31)]⟩,
      ⟨some 33, none, .app ty_impl_Server 2 16 (.t 23) (.t 32)⟩,
      ⟨some 5, none, .mv (.t 33)⟩])))
    (.ops [⟨some 13, none, .mv (.t 6)⟩,
      ⟨some 14, none, .bin .sub (.t 13) (.k (.i .i64 1))⟩,
      ⟨some 6, none, .mv (.t 14)⟩]))
def c_spec_l20Servers : LC := .seq (.ops [⟨some 4, none, .mv (.k (.sn))⟩])
    (.seq (.ops [⟨some 8, none, .bsl ty_impl_Server [.i .i64 0, .i .i64 0] 0 []⟩,
      ⟨some 5, none, .mv (.t 8)⟩])
    (.seq (.seq (.ops [⟨some 9, none, .mv (.t 0)⟩,
      ⟨some 10, none, .call (.k (.fn n_spec_l20Rd_pick [] [])) [.t 9, .k (.i .i64 3)]⟩,
      ⟨some 6, none, .mv (.t 10)⟩])
    (.block 0 (.loop l0_spec_l20Servers)))
    (.join (.seq (.ops [⟨some 34, none, .mv (.t 0)⟩,
      ⟨some 35, none, .mv (.t 1)⟩,
      ⟨some 36, none, .call (.k (.fn n_spec_l20Rd_odd [] [])) [.t 34, .t 35]⟩])
    (.cond (.t 36) (.ops [⟨some 37, none, .mv (.t 5)⟩,
      ⟨some 38, none, .build [.i .i64 0, .i .i64 0] [(0, 1, .k (.i .i64 0)), (1, 1, .k (.i .i64 4))]⟩,
      ⟨some 39, none, .build [.i .i64 0, .i .i64 0] [(0, 1, .k (.i .i64 5)), (1, 1, .k (.i .i64 4))]⟩,
      ⟨some 40, none, .build [.i .i64 0, .i .i64 0] [(0, 1, .k (.i .i64 1)), (1, 1, .k (.i .i64 13))]⟩,
      ⟨some 41, none, .build [.i .i64 0, .i .i64 0] [(0, 1, .k (.i .i64 1)), (1, 1, .k (.i .i64 1))]⟩,
      ⟨some 42, none, .bsl ty_impl_Server [.i .i64 0, .i .i64 0] 4 [(0, 2, .t 38), (2, 2, .t 39), (4, 2, .t 40), (6, 2, .t 41)]⟩,
      ⟨some 43, none, .mv (.t 0)⟩,
      ⟨some 44, none, .call (.k (.fn n_spec_l20Rd_pick [] [])) [.t 43, .k (.i .i64 4)]⟩,
      ⟨some 45, none, .ia 2 (.t 42) (.t 44)⟩,
      ⟨some 46, none, .ldn 2 (.t 45)⟩,
      ⟨some 47, none, .bsl ty_impl_Server [.i .i64 0, .i .i64 0] 1 [(0, 2, .t 46)]⟩,
      ⟨some 48, none, .app ty_impl_Server 2 16 (.t 37) (.t 47)⟩,
      ⟨some 5, none, .mv (.t 48)⟩])
    (.skip)))
    (.seq (.ops [⟨some 49, none, .mv (.t 5)⟩,
      ⟨some 4, none, .mv (.t 49)⟩])
    (.ret)))))
theorem k_spec_l20Servers : chkF Try.prog Try.f60 50 c_spec_l20Servers [.t 4] = true := by kernel_rfl
theorem call_spec_l20Servers {args : List AV} {σ : List AB} {K : AV → List AB → Prop} (hn : args.length ≤ 50) (hw : wpC Try.prog σ.length 50 c_spec_l20Servers (retP σ.length [.t 4] K) ⟨initT 0 args, σ⟩) : CallWp Try.prog n_spec_l20Servers args σ K := call_fn mixed Try.func60 k_spec_l20Servers hn hw
def l0_spec_l20Arrivals : LC := .seq (.seq (.ops [⟨some 34, none, .mv (.t 5)⟩,
      ⟨some 35, none, .len (.t 34)⟩,
      ⟨some 36, none, .bin .leq (.t 35) (.k (.i .i64 20))⟩])
    (.cond (.t 36) (.skip)
    (.exit 3)))
    (.block 4 (.ops [⟨some 37, none, .mv (.t 5)⟩,
      ⟨some 38, none, .build [.i .i64 0, .i .i64 0] [(0, 1, .k (.i .i64 119)), (1, 1, .k (.i .i64 1))]⟩,
      ⟨some 39, none, .bsl ty_impl_Arrival [.i .i64 0, .i .i64 0] 1 [(0, 2, .t 38)]⟩,
      ⟨some 40, none, .app ty_impl_Arrival 2 16 (.t 37) (.t 39)⟩,
      ⟨some 5, none, .mv (.t 40)⟩]))
def l1_spec_l20Arrivals : LC := .seq (.seq (.ops [⟨some 11, none, .mv (.t 7)⟩,
      ⟨some 12, none, .bin .gtr (.t 11) (.k (.i .i64 0))⟩])
    (.cond (.t 12) (.skip)
    (.exit 0)))
    (.seq (.block 1 (.seq (.ops [⟨some 15, none, .mv (.t 6)⟩,
      ⟨some 16, none, .mv (.t 0)⟩,
      ⟨some 17, none, .call (.k (.fn n_spec_l20Rd_pick [] [])) [.t 16, .k (.i .i64 14)]⟩,
      ⟨some 18, none, .bin .add (.t 15) (.t 17)⟩,
      ⟨some 6, none, .mv (.t 18)⟩])
    (.seq (.ops [⟨some 19, none, .mv (.t 6)⟩,
      ⟨some 20, none, .bin .lss (.t 19) (.k (.i .i64 120))⟩])
    (.cond (.t 20) (.ops [⟨some 21, none, .mv (.t 5)⟩,
      ⟨some 22, none, .mv (.t 6)⟩,
      ⟨some 23, none, .mv (.t 0)⟩,
      ⟨some 24, none, .call (.k (.fn n_spec_l20Rd_pick [] [])) [.t 23, .k (.i .i64 10)]⟩,
      ⟨some 25, none, .bin .add (.k (.i .i64 1)) (.t 24)⟩,
      ⟨some 26, none, .build [.i .i64 0, .i .i64 0] [(0, 1, .t 22), (1, 1, .t 25)]⟩,
      ⟨some 27, none, .bsl ty_impl_Arrival [.i .i64 0, .i .i64 0] 1 [(0, 2, .t 26)]⟩,
      ⟨some 28, none, .app ty_impl_Arrival 2 16 (.t 21) (.t 27)⟩,
      ⟨some 5, none, .mv (.t 28)⟩])
    (.skip)))))
    (.ops [⟨some 13, none, .mv (.t 7)⟩,
      ⟨some 14, none, .bin .sub (.t 13) (.k (.i .i64 1))⟩,
      ⟨some 7, none, .mv (.t 14)⟩]))
def c_spec_l20Arrivals : LC := .seq (.ops [⟨some 4, none, .mv (.k (.sn))⟩])
    (.seq (.ops [⟨some 8, none, .bsl ty_impl_Arrival [.i .i64 0, .i .i64 0] 0 []⟩,
      ⟨some 5, none, .mv (.t 8)⟩])
    (.seq (.ops [⟨some 6, none, .mv (.k (.i .i64 0))⟩])
    (.seq (.seq (.ops [⟨some 9, none, .mv (.t 0)⟩,
      ⟨some 10, none, .call (.k (.fn n_spec_l20Rd_pick [] [])) [.t 9, .k (.i .i64 11)]⟩,
      ⟨some 7, none, .mv (.t 10)⟩])
    (.block 0 (.loop l1_spec_l20Arrivals)))
    (.join (.seq (.ops [⟨some 29, none, .mv (.t 0)⟩,
      ⟨some 30, none, .mv (.t 1)⟩,
      ⟨some 31, none, .call (.k (.fn n_spec_l20Rd_odd [] [])) [.t 29, .t 30]⟩])
    (.cond (.t 31) (.seq (.ops [⟨some 32, none, .mv (.t 0)⟩,
      ⟨some 33, none, .call (.k (.fn n_spec_l20Rd_pick [] [])) [.t 32, .k (.i .i64 3)]⟩])
    (.block 2 (.seq (.ops [⟨some 42, none, .bin .eql (.t 33) (.k (.i .i64 0))⟩,
      ⟨some 41, none, .mv (.t 42)⟩])
    (.cond (.t 41) (.ops [⟨some 43, none, .mv (.t 5)⟩,
      ⟨some 44, none, .bsl ty_int [.i .i64 0] 2 [(0, 1, .k (.i .i64 (-1))), (1, 1, .k (.i .i64 120))]⟩,
      ⟨some 45, none, .mv (.t 0)⟩,
      ⟨some 46, none, .call (.k (.fn n_spec_l20Rd_pick [] [])) [.t 45, .k (.i .i64 2)]⟩,
      ⟨some 47, none, .ia 1 (.t 44) (.t 46)⟩,
      ⟨some 48, none, .ld (.t 47)⟩,
      ⟨some 49, none, .build [.i .i64 0, .i .i64 0] [(0, 1, .t 48), (1, 1, .k (.i .i64 1))]⟩,
      ⟨some 50, none, .bsl ty_impl_Arrival [.i .i64 0, .i .i64 0] 1 [(0, 2, .t 49)]⟩,
      ⟨some 51, none, .app ty_impl_Arrival 2 16 (.t 43) (.t 50)⟩,
      ⟨some 5, none, .mv (.t 51)⟩])
    (.seq (.ops [⟨some 53, none, .bin .eql (.t 33) (.k (.i .i64 1))⟩,
      ⟨some 52, none, .mv (.t 53)⟩])
    (.cond (.t 52) (.ops [⟨some 54, none, .mv (.t 5)⟩,
      ⟨some 55, none, .bsl ty_int [.i .i64 0] 2 [(0, 1, .k (.i .i64 0)), (1, 1, .k (.i .i64 21))]⟩,
      ⟨some 56, none, .mv (.t 0)⟩,
      ⟨some 57, none, .call (.k (.fn n_spec_l20Rd_pick [] [])) [.t 56, .k (.i .i64 2)]⟩,
      ⟨some 58, none, .ia 1 (.t 55) (.t 57)⟩,
      ⟨some 59, none, .ld (.t 58)⟩,
      ⟨some 60, none, .build [.i .i64 0, .i .i64 0] [(0, 1, .k (.i .i64 119)), (1, 1, .t 59)]⟩,
      ⟨some 61, none, .bsl ty_impl_Arrival [.i .i64 0, .i .i64 0] 1 [(0, 2, .t 60)]⟩,
      ⟨some 62, none, .app ty_impl_Arrival 2 16 (.t 54) (.t 61)⟩,
      ⟨some 5, none, .mv (.t 62)⟩])
    (.block 3 (.loop l0_spec_l20Arrivals))))))))
    (.skip)))
    (.seq (.ops [⟨some 63, none, .mv (.t 5)⟩,
      ⟨some 4, none, .mv (.t 63)⟩])
    (.ret))))))
theorem k_spec_l20Arrivals : chkF Try.prog Try.f61 64 c_spec_l20Arrivals [.t 4] = true := by kernel_rfl
theorem call_spec_l20Arrivals {args : List AV} {σ : List AB} {K : AV → List AB → Prop} (hn : args.length ≤ 64) (hw : wpC Try.prog σ.length 64 c_spec_l20Arrivals (retP σ.length [.t 4] K) ⟨initT 0 args, σ⟩) : CallWp Try.prog n_spec_l20Arrivals args σ K := call_fn mixed Try.func61 k_spec_l20Arrivals hn hw
def c_spec_l20Rd_odd : LC := .seq (.ops [⟨some 4, none, .mv (.k (.b false))⟩])
    (.seq (.ops [⟨some 5, none, .mv (.t 1)⟩,
      ⟨some 6, none, .bin .gtr (.t 5) (.k (.i .i64 0))⟩,
      ⟨some 7, none, .mv (.t 6)⟩,
      ⟨some 8, (some (7, true)), .mv (.t 0)⟩,
      ⟨some 9, (some (7, true)), .mv (.t 1)⟩,
      ⟨some 10, (some (7, true)), .call (.k (.fn n_spec_l20Rd_pick [] [])) [.t 8, .t 9]⟩,
      ⟨some 11, (some (7, true)), .mv (.t 1)⟩,
      ⟨some 12, (some (7, true)), .bin .sub (.t 11) (.k (.i .i64 1))⟩,
      ⟨some 13, (some (7, true)), .bin .eql (.t 10) (.t 12)⟩,
      ⟨some 14, none, .pick (.t 7) (.t 13) (.k (.b false))⟩,
      ⟨some 4, none, .mv (.t 14)⟩])
    (.ret))
theorem k_spec_l20Rd_odd : chkF Try.prog Try.f62 15 c_spec_l20Rd_odd [.t 4] = true := by kernel_rfl
theorem call_spec_l20Rd_odd {args : List AV} {σ : List AB} {K : AV → List AB → Prop} (hn : args.length ≤ 15) (hw : wpC Try.prog σ.length 15 c_spec_l20Rd_odd (retP σ.length [.t 4] K) ⟨initT 0 args, σ⟩) : CallWp Try.prog n_spec_l20Rd_odd args σ K := call_fn mixed Try.func62 k_spec_l20Rd_odd hn hw
def c_impl_ServersValid : LC := .seq (.ops [⟨some 2, none, .mv (.k (.b false))⟩])
    (.seq (.ops [⟨some 3, none, .mv (.t 0)⟩,
      ⟨some 4, none, .len (.t 3)⟩,
      ⟨some 5, none, .bin .leq (.t 4) (.k (.i .i64 2))⟩,
      ⟨some 6, none, .mv (.t 5)⟩,
      ⟨some 7, (some (6, true)), .mv (.t 0)⟩,
      ⟨some 8, (some (6, true)), .call (.k (.fn n_slices_ContainsFunc_impl_Server [] [])) [.t 7, .k (.fn n_impl_ServersValid_1 [] [])]⟩,
      ⟨some 9, (some (6, true)), .not (.t 8)⟩,
      ⟨some 10, none, .pick (.t 6) (.t 9) (.k (.b false))⟩,
      ⟨some 2, none, .mv (.t 10)⟩])
    (.ret))
theorem k_impl_ServersValid : chkF Try.prog Try.f63 11 c_impl_ServersValid [.t 2] = true := by kernel_rfl
theorem call_impl_ServersValid {args : List AV} {σ : List AB} {K : AV → List AB → Prop} (hn : args.length ≤ 11) (hw : wpC Try.prog σ.length 11 c_impl_ServersValid (retP σ.length [.t 2] K) ⟨initT 0 args, σ⟩) : CallWp Try.prog n_impl_ServersValid args σ K := call_fn mixed Try.func63 k_impl_ServersValid hn hw
def c_slices_ContainsFunc_impl_Arrival_impl_Arrival : LC := .seq (.ops [⟨some 4, none, .mv (.k (.b false))⟩])
    (.seq (.ops [⟨some 5, none, .mv (.t 0)⟩,
      ⟨some 6, none, .mv (.t 1)⟩,
      ⟨some 7, none, .call (.k (.fn n_slices_IndexFunc_impl_Arrival_impl_Arrival [] [])) [.t 5, .t 6]⟩,
      ⟨some 8, none, .bin .geq (.t 7) (.k (.i .i64 0))⟩,
      ⟨some 4, none, .mv (.t 8)⟩])
    (.ret))
theorem k_slices_ContainsFunc_impl_Arrival_impl_Arrival : chkF Try.prog Try.f64 9 c_slices_ContainsFunc_impl_Arrival_impl_Arrival [.t 4] = true := by kernel_rfl
theorem call_slices_ContainsFunc_impl_Arrival_impl_Arrival {args : List AV} {σ : List AB} {K : AV → List AB → Prop} (hn : args.length ≤ 9) (hw : wpC Try.prog σ.length 9 c_slices_ContainsFunc_impl_Arrival_impl_Arrival (retP σ.length [.t 4] K) ⟨initT 0 args, σ⟩) : CallWp Try.prog n_slices_ContainsFunc_impl_Arrival_impl_Arrival args σ K := call_fn mixed Try.func64 k_slices_ContainsFunc_impl_Arrival_impl_Arrival hn hw
def c_impl_RunServers_1 : LC := .seq (.ops [⟨some 2, none, .mv (.k (.b false))⟩])
    (.seq (.ops [⟨some 3, none, .mv (.t 0)⟩,
      ⟨some 4, none, .call (.k (.fn n_impl_ArrivalsLegal [] [])) [.t 3]⟩,
      ⟨some 5, none, .not (.t 4)⟩,
      ⟨some 2, none, .mv (.t 5)⟩])
    (.ret))
theorem k_impl_RunServers_1 : chkF Try.prog Try.f65 6 c_impl_RunServers_1 [.t 2] = true := by kernel_rfl
theorem call_impl_RunServers_1 {args : List AV} {σ : List AB} {K : AV → List AB → Prop} (hn : args.length ≤ 6) (hw : wpC Try.prog σ.length 6 c_impl_RunServers_1 (retP σ.length [.t 2] K) ⟨initT 0 args, σ⟩) : CallWp Try.prog n_impl_RunServers_1 args σ K := call_fn mixed Try.func65 k_impl_RunServers_1 hn hw
def l0_impl_ArrivalsLegal : LC := .seq (.ops [⟨some 8, none, .bin .lss (.t 7) (.t 6)⟩])
    (.seq (.cond (.t 8) (.skip)
    (.exit 0))
    (.seq (.block 1 (.seq (.ops [⟨some 9, none, .mv (.t 7)⟩,
      ⟨some 10, none, .ia 2 (.t 5) (.t 7)⟩,
      ⟨some 11, none, .ldn 2 (.t 10)⟩,
      ⟨some 4, none, .alloc ty_impl_Arrival [.i .i64 0, .i .i64 0]⟩,
      ⟨some 3, none, .mv (.t 9)⟩,
      ⟨none, none, .st 2 (.t 4) (.t 11)⟩])
    (.seq (.draw 25 [⟨some 12, none, .fa 0 (.t 4)⟩,
      ⟨some 13, none, .ld (.t 12)⟩,
      ⟨some 14, none, .call (.k (.fn n_impl_in [] [])) [.t 13, .k (.i .i64 0), .k (.i .i64 119)]⟩,
      ⟨some 15, none, .not (.t 14)⟩,
      ⟨some 16, none, .mv (.t 15)⟩,
      ⟨some 17, (some (16, false)), .fa 1 (.t 4)⟩,
      ⟨some 18, (some (16, false)), .ld (.t 17)⟩,
      ⟨some 19, (some (16, false)), .call (.k (.fn n_impl_in [] [])) [.t 18, .k (.i .i64 1), .k (.i .i64 20)]⟩,
      ⟨some 20, (some (16, false)), .not (.t 19)⟩,
      ⟨some 21, none, .pick (.t 16) (.k (.b true)) (.t 20)⟩,
      ⟨some 22, none, .mv (.t 21)⟩,
      ⟨some 23, (some (22, false)), .mv (.t 3)⟩,
      ⟨some 24, (some (22, false)), .bin .gtr (.t 23) (.k (.i .i64 0))⟩,
      ⟨some 25, (some (22, false)), .mv (.t 24)⟩,
      ⟨some 26, (some (25, true)), .mv (.t 0)⟩,
      ⟨some 27, (some (25, true)), .mv (.t 3)⟩,
      ⟨some 28, (some (25, true)), .bin .sub (.t 27) (.k (.i .i64 1))⟩,
      ⟨some 29, (some (25, true)), .ia 2 (.t 26) (.t 28)⟩,
      ⟨some 30, (some (25, true)), .fa 0 (.t 29)⟩,
      ⟨some 31, (some (25, true)), .ld (.t 30)⟩,
      ⟨some 32, (some (25, true)), .fa 0 (.t 4)⟩,
      ⟨some 33, (some (25, true)), .ld (.t 32)⟩,
      ⟨some 34, (some (25, true)), .bin .gtr (.t 31) (.t 33)⟩,
      ⟨some 35, (some (22, false)), .pick (.t 25) (.t 34) (.k (.b false))⟩,
      ⟨some 36, none, .pick (.t 22) (.k (.b true)) (.t 35)⟩])
    (.cond (.t 36) (.seq (.ops [⟨some 2, none, .mv (.k (.b false))⟩])
    (.ret))
    (.skip)))))
    (.ops [⟨some 37, none, .bin .add (.t 7) (.k (.i .i64 1))⟩,
      ⟨some 7, none, .mv (.t 37)⟩])))
def c_impl_ArrivalsLegal : LC := .seq (.ops [⟨some 2, none, .mv (.k (.b false))⟩])
    (.seq (.seq (.ops [⟨some 5, none, .mv (.t 0)⟩,
      ⟨some 6, none, .len (.t 5)⟩,
      ⟨some 7, none, .mv (.k (.i .i64 0))⟩])
    (.block 0 (.loop l0_impl_ArrivalsLegal)))
    (.seq (.ops [⟨some 38, none, .mv (.t 0)⟩,
      ⟨some 39, none, .len (.t 38)⟩,
      ⟨some 40, none, .bin .leq (.t 39) (.k (.i .i64 20))⟩,
      ⟨some 2, none, .mv (.t 40)⟩])
    (.ret)))
theorem k_impl_ArrivalsLegal : chkF Try.prog Try.f66 41 c_impl_ArrivalsLegal [.t 2] = true := by kernel_rfl
theorem call_impl_ArrivalsLegal {args : List AV} {σ : List AB} {K : AV → List AB → Prop} (hn : args.length ≤ 41) (hw : wpC Try.prog σ.length 41 c_impl_ArrivalsLegal (retP σ.length [.t 2] K) ⟨initT 0 args, σ⟩) : CallWp Try.prog n_impl_ArrivalsLegal args σ K := call_fn mixed Try.func66 k_impl_ArrivalsLegal hn hw
def c_impl_none : LC := .seq (.ops [⟨some 2, none, .mv (.k (.sn))⟩])
    (.seq (.ops [⟨some 3, none, .bsl ty_int [.i .i64 0] 1 [(0, 1, .k (.i .i64 (-1)))]⟩,
      ⟨some 4, none, .mv (.t 0)⟩,
      ⟨some 5, none, .call (.k (.fn n_slices_Repeat_int [] [])) [.t 3, .t 4]⟩,
      ⟨some 2, none, .mv (.t 5)⟩])
    (.ret))
theorem k_impl_none : chkF Try.prog Try.f67 6 c_impl_none [.t 2] = true := by kernel_rfl
theorem call_impl_none {args : List AV} {σ : List AB} {K : AV → List AB → Prop} (hn : args.length ≤ 6) (hw : wpC Try.prog σ.length 6 c_impl_none (retP σ.length [.t 2] K) ⟨initT 0 args, σ⟩) : CallWp Try.prog n_impl_none args σ K := call_fn mixed Try.func67 k_impl_none hn hw
def l0_impl_RunServers_2 : LC := .seq (.ops [⟨some 16, none, .bin .lss (.t 15) (.t 14)⟩])
    (.seq (.cond (.t 16) (.skip)
    (.exit 0))
    (.seq (.block 1 (.seq (.ops [⟨some 17, none, .mv (.t 15)⟩,
      ⟨some 18, none, .ia 1 (.t 13) (.t 15)⟩,
      ⟨some 19, none, .ld (.t 18)⟩,
      ⟨some 8, none, .mv (.t 17)⟩,
      ⟨some 9, none, .mv (.t 19)⟩])
    (.seq (.ops [⟨some 20, none, .mv (.t 9)⟩,
      ⟨some 21, none, .mv (.t 0)⟩,
      ⟨some 22, none, .nilc (.t 21)⟩,
      ⟨some 23, none, .fa 2 (.t 22)⟩,
      ⟨some 24, none, .ld (.t 23)⟩,
      ⟨some 25, none, .call (.k (.fn n_impl_server_admit [] [])) [.t 20, .t 24]⟩])
    (.seq (.draw 20 [⟨some 26, none, .mv (.t 9)⟩,
      ⟨some 27, none, .call (.k (.fn n_impl_server_pending [] [])) [.t 26]⟩,
      ⟨some 28, none, .mv (.t 27)⟩,
      ⟨some 29, (some (28, true)), .mv (.t 7)⟩,
      ⟨some 30, (some (28, true)), .bin .lss (.t 29) (.k (.i .i64 0))⟩,
      ⟨some 31, (some (28, true)), .mv (.t 30)⟩,
      ⟨some 32, (some (31, false)), .mv (.t 9)⟩,
      ⟨some 33, (some (31, false)), .nilc (.t 32)⟩,
      ⟨some 34, (some (31, false)), .fa 3 (.t 33)⟩,
      ⟨some 35, (some (31, false)), .ld (.t 34)⟩,
      ⟨some 36, (some (31, false)), .ld (.t 1)⟩,
      ⟨some 37, (some (31, false)), .mv (.t 7)⟩,
      ⟨some 38, (some (31, false)), .ia 1 (.t 36) (.t 37)⟩,
      ⟨some 39, (some (31, false)), .ld (.t 38)⟩,
      ⟨some 40, (some (31, false)), .nilc (.t 39)⟩,
      ⟨some 41, (some (31, false)), .fa 3 (.t 40)⟩,
      ⟨some 42, (some (31, false)), .ld (.t 41)⟩,
      ⟨some 43, (some (31, false)), .bin .lss (.t 35) (.t 42)⟩,
      ⟨some 44, (some (28, true)), .pick (.t 31) (.k (.b true)) (.t 43)⟩,
      ⟨some 45, none, .pick (.t 28) (.t 44) (.k (.b false))⟩])
    (.cond (.t 45) (.ops [⟨some 46, none, .mv (.t 8)⟩,
      ⟨some 7, none, .mv (.t 46)⟩])
    (.skip))))))
    (.ops [⟨some 47, none, .bin .add (.t 15) (.k (.i .i64 1))⟩,
      ⟨some 15, none, .mv (.t 47)⟩])))
def c_impl_RunServers_2 : LC := .seq (.ops [⟨some 5, none, .mv (.k (.i .i64 0))⟩])
    (.seq (.ops [⟨some 11, none, .mv (.t 0)⟩,
      ⟨some 12, none, .call (.k (.fn n_impl_edf [] [])) [.t 11]⟩,
      ⟨some 6, none, .mv (.t 12)⟩,
      ⟨some 7, none, .mv (.k (.i .i64 (-1)))⟩])
    (.seq (.seq (.ops [⟨some 13, none, .ld (.t 1)⟩,
      ⟨some 14, none, .len (.t 13)⟩,
      ⟨some 15, none, .mv (.k (.i .i64 0))⟩])
    (.block 0 (.loop l0_impl_RunServers_2)))
    (.seq (.seq (.draw 21 [⟨some 48, none, .mv (.t 7)⟩,
      ⟨some 49, none, .bin .lss (.t 48) (.k (.i .i64 0))⟩,
      ⟨some 50, none, .mv (.t 49)⟩,
      ⟨some 51, (some (50, false)), .mv (.t 6)⟩,
      ⟨some 52, (some (50, false)), .bin .geq (.t 51) (.k (.i .i64 0))⟩,
      ⟨some 53, (some (50, false)), .mv (.t 52)⟩,
      ⟨some 54, (some (53, true)), .ld (.t 2)⟩,
      ⟨some 55, (some (53, true)), .mv (.t 6)⟩,
      ⟨some 56, (some (53, true)), .ia 4 (.t 54) (.t 55)⟩,
      ⟨some 57, (some (53, true)), .fa 2 (.t 56)⟩,
      ⟨some 58, (some (53, true)), .ld (.t 57)⟩,
      ⟨some 59, (some (53, true)), .ld (.t 1)⟩,
      ⟨some 60, (some (53, true)), .mv (.t 7)⟩,
      ⟨some 61, (some (53, true)), .ia 1 (.t 59) (.t 60)⟩,
      ⟨some 62, (some (53, true)), .ld (.t 61)⟩,
      ⟨some 63, (some (53, true)), .nilc (.t 62)⟩,
      ⟨some 64, (some (53, true)), .fa 3 (.t 63)⟩,
      ⟨some 65, (some (53, true)), .ld (.t 64)⟩,
      ⟨some 66, (some (53, true)), .bin .leq (.t 58) (.t 65)⟩,
      ⟨some 67, (some (50, false)), .pick (.t 53) (.t 66) (.k (.b false))⟩,
      ⟨some 68, none, .pick (.t 50) (.k (.b true)) (.t 67)⟩])
    (.cond (.t 68) (.seq (.ops [⟨some 69, none, .mv (.t 6)⟩,
      ⟨some 5, none, .mv (.t 69)⟩])
    (.ret))
    (.skip)))
    (.seq (.draw 7 [⟨some 70, none, .fa 2 (.t 3)⟩,
      ⟨some 71, none, .ld (.t 70)⟩,
      ⟨some 72, none, .mv (.t 0)⟩,
      ⟨some 73, none, .nilc (.t 72)⟩,
      ⟨some 74, none, .fa 2 (.t 73)⟩,
      ⟨some 75, none, .ld (.t 74)⟩,
      ⟨some 76, none, .mv (.t 7)⟩,
      ⟨some 77, none, .ia 1 (.t 71) (.t 75)⟩,
      ⟨none, none, .st 1 (.t 77) (.t 76)⟩])
    (.join (.seq (.ops [⟨some 78, none, .ld (.t 1)⟩,
      ⟨some 79, none, .mv (.t 7)⟩,
      ⟨some 80, none, .ia 1 (.t 78) (.t 79)⟩,
      ⟨some 81, none, .ld (.t 80)⟩,
      ⟨some 82, none, .nilc (.t 81)⟩,
      ⟨some 83, none, .fa 6 (.t 82)⟩,
      ⟨some 84, none, .ld (.t 83)⟩,
      ⟨some 10, none, .mv (.t 84)⟩])
    (.seq (.ops [⟨some 85, none, .ld (.t 1)⟩,
      ⟨some 86, none, .mv (.t 7)⟩,
      ⟨some 87, none, .ia 1 (.t 85) (.t 86)⟩,
      ⟨some 88, none, .ld (.t 87)⟩,
      ⟨some 89, none, .call (.k (.fn n_impl_server_serve [] [])) [.t 88]⟩])
    (.cond (.t 89) (.draw 11 [⟨some 90, none, .fa 3 (.t 3)⟩,
      ⟨some 91, none, .ld (.t 90)⟩,
      ⟨some 92, none, .mv (.t 7)⟩,
      ⟨some 93, none, .ia 1 (.t 91) (.t 92)⟩,
      ⟨some 94, none, .ld (.t 93)⟩,
      ⟨some 95, none, .mv (.t 10)⟩,
      ⟨some 96, none, .mv (.t 0)⟩,
      ⟨some 97, none, .nilc (.t 96)⟩,
      ⟨some 98, none, .fa 2 (.t 97)⟩,
      ⟨some 99, none, .ld (.t 98)⟩,
      ⟨some 100, none, .bin .add (.t 99) (.k (.i .i64 1))⟩,
      ⟨some 101, none, .ia 1 (.t 94) (.t 95)⟩,
      ⟨none, none, .st 1 (.t 101) (.t 100)⟩])
    (.skip))))
    (.seq (.ops [⟨some 5, none, .mv (.k (.i .i64 (-1)))⟩])
    (.ret)))))))
theorem k_impl_RunServers_2 : chkF Try.prog Try.f68 102 c_impl_RunServers_2 [.t 5] = true := by kernel_rfl
theorem callC_impl_RunServers_2 {args : List AV} {σ : List AB} {K : AV → List AB → Prop} (hn : args.length ≤ 102) (hw : Closed σ → args.all (below1 σ.length) = true → wpC Try.prog σ.length 102 c_impl_RunServers_2 (retP σ.length [.t 5] K) ⟨initT 0 args, σ⟩) : CallWp Try.prog n_impl_RunServers_2 args σ K := call_fnC mixed Try.func68 k_impl_RunServers_2 hn hw
def l0_impl_server_admit : LC := .seq (.seq (.draw 25 [⟨some 4, none, .mv (.t 0)⟩,
      ⟨some 5, none, .nilc (.t 4)⟩,
      ⟨some 6, none, .fa 5 (.t 5)⟩,
      ⟨some 7, none, .ld (.t 6)⟩,
      ⟨some 8, none, .mv (.t 0)⟩,
      ⟨some 9, none, .nilc (.t 8)⟩,
      ⟨some 10, none, .fa 4 (.t 9)⟩,
      ⟨some 11, none, .ld (.t 10)⟩,
      ⟨some 12, none, .len (.t 11)⟩,
      ⟨some 13, none, .bin .lss (.t 7) (.t 12)⟩,
      ⟨some 14, none, .mv (.t 13)⟩,
      ⟨some 15, (some (14, true)), .mv (.t 0)⟩,
      ⟨some 16, (some (14, true)), .nilc (.t 15)⟩,
      ⟨some 17, (some (14, true)), .fa 4 (.t 16)⟩,
      ⟨some 18, (some (14, true)), .ld (.t 17)⟩,
      ⟨some 19, (some (14, true)), .mv (.t 0)⟩,
      ⟨some 20, (some (14, true)), .nilc (.t 19)⟩,
      ⟨some 21, (some (14, true)), .fa 5 (.t 20)⟩,
      ⟨some 22, (some (14, true)), .ld (.t 21)⟩,
      ⟨some 23, (some (14, true)), .ia 2 (.t 18) (.t 22)⟩,
      ⟨some 24, (some (14, true)), .fa 0 (.t 23)⟩,
      ⟨some 25, (some (14, true)), .ld (.t 24)⟩,
      ⟨some 26, (some (14, true)), .mv (.t 1)⟩,
      ⟨some 27, (some (14, true)), .bin .eql (.t 25) (.t 26)⟩,
      ⟨some 28, none, .pick (.t 14) (.t 27) (.k (.b false))⟩])
    (.cond (.t 28) (.skip)
    (.exit 0)))
    (.block 1 (.seq (.seq (.draw 28 [⟨some 29, none, .mv (.t 0)⟩,
      ⟨some 30, none, .call (.k (.fn n_impl_server_pending [] [])) [.t 29]⟩,
      ⟨some 31, none, .not (.t 30)⟩,
      ⟨some 32, none, .mv (.t 31)⟩,
      ⟨some 33, (some (32, true)), .mv (.t 0)⟩,
      ⟨some 34, (some (32, true)), .nilc (.t 33)⟩,
      ⟨some 35, (some (32, true)), .fa 2 (.t 34)⟩,
      ⟨some 36, (some (32, true)), .ld (.t 35)⟩,
      ⟨some 37, (some (32, true)), .mv (.t 0)⟩,
      ⟨some 38, (some (32, true)), .nilc (.t 37)⟩,
      ⟨some 39, (some (32, true)), .fa 0 (.t 38)⟩,
      ⟨some 40, (some (32, true)), .fa 1 (.t 39)⟩,
      ⟨some 41, (some (32, true)), .ld (.t 40)⟩,
      ⟨some 42, (some (32, true)), .bin .mul (.t 36) (.t 41)⟩,
      ⟨some 43, (some (32, true)), .mv (.t 0)⟩,
      ⟨some 44, (some (32, true)), .nilc (.t 43)⟩,
      ⟨some 45, (some (32, true)), .fa 3 (.t 44)⟩,
      ⟨some 46, (some (32, true)), .ld (.t 45)⟩,
      ⟨some 47, (some (32, true)), .mv (.t 1)⟩,
      ⟨some 48, (some (32, true)), .bin .sub (.t 46) (.t 47)⟩,
      ⟨some 49, (some (32, true)), .mv (.t 0)⟩,
      ⟨some 50, (some (32, true)), .nilc (.t 49)⟩,
      ⟨some 51, (some (32, true)), .fa 0 (.t 50)⟩,
      ⟨some 52, (some (32, true)), .fa 0 (.t 51)⟩,
      ⟨some 53, (some (32, true)), .ld (.t 52)⟩,
      ⟨some 54, (some (32, true)), .bin .mul (.t 48) (.t 53)⟩,
      ⟨some 55, (some (32, true)), .bin .geq (.t 42) (.t 54)⟩,
      ⟨some 56, none, .pick (.t 32) (.t 55) (.k (.b false))⟩])
    (.cond (.t 56) (.plan [0, 1, 2, 3, 4, 5, 6, 7, 8, 9, 10, 11, 12, 13, 14, 15] [⟨some 57, none, .mv (.t 0)⟩,
      ⟨some 58, none, .mv (.t 0)⟩,
      ⟨some 59, none, .mv (.t 1)⟩,
      ⟨some 60, none, .mv (.t 0)⟩,
      ⟨some 61, none, .nilc (.t 60)⟩,
      ⟨some 62, none, .fa 0 (.t 61)⟩,
      ⟨some 63, none, .fa 1 (.t 62)⟩,
      ⟨some 64, none, .ld (.t 63)⟩,
      ⟨some 65, none, .bin .add (.t 59) (.t 64)⟩,
      ⟨some 66, none, .mv (.t 0)⟩,
      ⟨some 67, none, .nilc (.t 66)⟩,
      ⟨some 68, none, .fa 0 (.t 67)⟩,
      ⟨some 69, none, .fa 0 (.t 68)⟩,
      ⟨some 70, none, .ld (.t 69)⟩,
      ⟨some 71, none, .nilc (.t 57)⟩,
      ⟨some 72, none, .fa 3 (.t 71)⟩]
      (.one 16 ⟨none, none, .st 1 (.t 72) (.t 65)⟩ [] [17, 18]
        [⟨some 73, none, .nilc (.t 58)⟩,
        ⟨some 74, none, .fa 2 (.t 73)⟩]
      (.one 19 ⟨none, none, .st 1 (.t 74) (.t 70)⟩ [] []
        []
      .fin)))
    (.skip)))
    (.ops [⟨some 75, none, .mv (.t 0)⟩,
      ⟨some 76, none, .nilc (.t 75)⟩,
      ⟨some 77, none, .fa 5 (.t 76)⟩,
      ⟨some 78, none, .ld (.t 77)⟩,
      ⟨some 79, none, .bin .add (.t 78) (.k (.i .i64 1))⟩,
      ⟨some 80, none, .nilc (.t 75)⟩,
      ⟨some 81, none, .fa 5 (.t 80)⟩,
      ⟨none, none, .st 1 (.t 81) (.t 79)⟩])))
def c_impl_server_admit : LC := .block 0 (.loop l0_impl_server_admit)
theorem k_impl_server_admit : chkF Try.prog Try.f69 82 c_impl_server_admit [] = true := by kernel_rfl
theorem callC_impl_server_admit {args : List AV} {σ : List AB} {K : AV → List AB → Prop} (hn : args.length ≤ 82) (hw : Closed σ → args.all (below1 σ.length) = true → wpC Try.prog σ.length 82 c_impl_server_admit (retP σ.length [] K) ⟨initT 0 args, σ⟩) : CallWp Try.prog n_impl_server_admit args σ K := call_fnC mixed Try.func69 k_impl_server_admit hn hw
def c_impl_server_pending : LC := .seq (.ops [⟨some 2, none, .mv (.k (.b false))⟩])
    (.seq (.draw 9 [⟨some 3, none, .mv (.t 0)⟩,
      ⟨some 4, none, .nilc (.t 3)⟩,
      ⟨some 5, none, .fa 6 (.t 4)⟩,
      ⟨some 6, none, .ld (.t 5)⟩,
      ⟨some 7, none, .mv (.t 0)⟩,
      ⟨some 8, none, .nilc (.t 7)⟩,
      ⟨some 9, none, .fa 5 (.t 8)⟩,
      ⟨some 10, none, .ld (.t 9)⟩,
      ⟨some 11, none, .bin .lss (.t 6) (.t 10)⟩,
      ⟨some 2, none, .mv (.t 11)⟩])
    (.ret))
theorem k_impl_server_pending : chkF Try.prog Try.f70 12 c_impl_server_pending [.t 2] = true := by kernel_rfl
theorem callC_impl_server_pending {args : List AV} {σ : List AB} {K : AV → List AB → Prop} (hn : args.length ≤ 12) (hw : Closed σ → args.all (below1 σ.length) = true → wpC Try.prog σ.length 12 c_impl_server_pending (retP σ.length [.t 2] K) ⟨initT 0 args, σ⟩) : CallWp Try.prog n_impl_server_pending args σ K := call_fnC mixed Try.func70 k_impl_server_pending hn hw
def c_impl_server_serve : LC := .seq (.ops [⟨some 2, none, .mv (.k (.b false))⟩])
    (.seq (.ops [⟨some 3, none, .mv (.t 0)⟩,
      ⟨some 4, none, .nilc (.t 3)⟩,
      ⟨some 5, none, .fa 2 (.t 4)⟩,
      ⟨some 6, none, .ld (.t 5)⟩,
      ⟨some 7, none, .bin .sub (.t 6) (.k (.i .i64 1))⟩,
      ⟨some 8, none, .nilc (.t 3)⟩,
      ⟨some 9, none, .fa 2 (.t 8)⟩,
      ⟨none, none, .st 1 (.t 9) (.t 7)⟩])
    (.join (.seq (.ops [⟨some 10, none, .mv (.t 0)⟩,
      ⟨some 11, none, .nilc (.t 10)⟩,
      ⟨some 12, none, .fa 2 (.t 11)⟩,
      ⟨some 13, none, .ld (.t 12)⟩,
      ⟨some 14, none, .bin .eql (.t 13) (.k (.i .i64 0))⟩])
    (.cond (.t 14) (.seq (.ops [⟨some 15, none, .mv (.t 0)⟩,
      ⟨some 16, none, .mv (.t 0)⟩,
      ⟨some 17, none, .nilc (.t 16)⟩,
      ⟨some 18, none, .fa 0 (.t 17)⟩,
      ⟨some 19, none, .fa 0 (.t 18)⟩,
      ⟨some 20, none, .ld (.t 19)⟩,
      ⟨some 21, none, .nilc (.t 15)⟩,
      ⟨some 22, none, .fa 2 (.t 21)⟩,
      ⟨none, none, .st 1 (.t 22) (.t 20)⟩])
    (.plan [0, 1, 2, 3, 4, 5, 6, 7, 8, 9, 10, 11] [⟨some 23, none, .mv (.t 0)⟩,
      ⟨some 24, none, .nilc (.t 23)⟩,
      ⟨some 25, none, .fa 3 (.t 24)⟩,
      ⟨some 26, none, .ld (.t 25)⟩,
      ⟨some 27, none, .mv (.t 0)⟩,
      ⟨some 28, none, .nilc (.t 27)⟩,
      ⟨some 29, none, .fa 0 (.t 28)⟩,
      ⟨some 30, none, .fa 1 (.t 29)⟩,
      ⟨some 31, none, .ld (.t 30)⟩,
      ⟨some 32, none, .bin .add (.t 26) (.t 31)⟩,
      ⟨some 33, none, .nilc (.t 23)⟩,
      ⟨some 34, none, .fa 3 (.t 33)⟩]
      (.one 12 ⟨none, none, .st 1 (.t 34) (.t 32)⟩ [] []
        []
      .fin)))
    (.skip)))
    (.seq (.ops [⟨some 35, none, .mv (.t 0)⟩,
      ⟨some 36, none, .nilc (.t 35)⟩,
      ⟨some 37, none, .fa 7 (.t 36)⟩,
      ⟨some 38, none, .ld (.t 37)⟩,
      ⟨some 39, none, .bin .add (.t 38) (.k (.i .i64 1))⟩,
      ⟨some 40, none, .nilc (.t 35)⟩,
      ⟨some 41, none, .fa 7 (.t 40)⟩,
      ⟨none, none, .st 1 (.t 41) (.t 39)⟩])
    (.seq (.seq (.draw 16 [⟨some 42, none, .mv (.t 0)⟩,
      ⟨some 43, none, .nilc (.t 42)⟩,
      ⟨some 44, none, .fa 7 (.t 43)⟩,
      ⟨some 45, none, .ld (.t 44)⟩,
      ⟨some 46, none, .mv (.t 0)⟩,
      ⟨some 47, none, .nilc (.t 46)⟩,
      ⟨some 48, none, .fa 4 (.t 47)⟩,
      ⟨some 49, none, .ld (.t 48)⟩,
      ⟨some 50, none, .mv (.t 0)⟩,
      ⟨some 51, none, .nilc (.t 50)⟩,
      ⟨some 52, none, .fa 6 (.t 51)⟩,
      ⟨some 53, none, .ld (.t 52)⟩,
      ⟨some 54, none, .ia 2 (.t 49) (.t 53)⟩,
      ⟨some 55, none, .fa 1 (.t 54)⟩,
      ⟨some 56, none, .ld (.t 55)⟩,
      ⟨some 57, none, .bin .lss (.t 45) (.t 56)⟩])
    (.cond (.t 57) (.seq (.ops [⟨some 2, none, .mv (.k (.b false))⟩])
    (.ret))
    (.skip)))
    (.seq (.ops [⟨some 58, none, .mv (.t 0)⟩,
      ⟨some 59, none, .nilc (.t 58)⟩,
      ⟨some 60, none, .fa 6 (.t 59)⟩,
      ⟨some 61, none, .ld (.t 60)⟩,
      ⟨some 62, none, .bin .add (.t 61) (.k (.i .i64 1))⟩,
      ⟨some 63, none, .nilc (.t 58)⟩,
      ⟨some 64, none, .fa 6 (.t 63)⟩,
      ⟨none, none, .st 1 (.t 64) (.t 62)⟩])
    (.seq (.ops [⟨some 65, none, .mv (.t 0)⟩,
      ⟨some 66, none, .nilc (.t 65)⟩,
      ⟨some 67, none, .fa 7 (.t 66)⟩,
      ⟨none, none, .st 1 (.t 67) (.k (.i .i64 0))⟩])
    (.seq (.ops [⟨some 2, none, .mv (.k (.b true))⟩])
    (.ret))))))))
theorem k_impl_server_serve : chkF Try.prog Try.f71 68 c_impl_server_serve [.t 2] = true := by kernel_rfl
theorem callC_impl_server_serve {args : List AV} {σ : List AB} {K : AV → List AB → Prop} (hn : args.length ≤ 68) (hw : Closed σ → args.all (below1 σ.length) = true → wpC Try.prog σ.length 68 c_impl_server_serve (retP σ.length [.t 2] K) ⟨initT 0 args, σ⟩) : CallWp Try.prog n_impl_server_serve args σ K := call_fnC mixed Try.func71 k_impl_server_serve hn hw
def c_spec_l1In : LC := .seq (.ops [⟨some 6, none, .mv (.k (.b false))⟩])
    (.seq (.ops [⟨some 7, none, .mv (.t 0)⟩,
      ⟨some 8, none, .mv (.t 1)⟩,
      ⟨some 9, none, .bin .geq (.t 7) (.t 8)⟩,
      ⟨some 10, none, .mv (.t 9)⟩,
      ⟨some 11, (some (10, true)), .mv (.t 0)⟩,
      ⟨some 12, (some (10, true)), .mv (.t 2)⟩,
      ⟨some 13, (some (10, true)), .bin .leq (.t 11) (.t 12)⟩,
      ⟨some 14, none, .pick (.t 10) (.t 13) (.k (.b false))⟩,
      ⟨some 6, none, .mv (.t 14)⟩])
    (.ret))
theorem k_spec_l1In : chkF Try.prog Try.f72 15 c_spec_l1In [.t 6] = true := by kernel_rfl
theorem call_spec_l1In {args : List AV} {σ : List AB} {K : AV → List AB → Prop} (hn : args.length ≤ 15) (hw : wpC Try.prog σ.length 15 c_spec_l1In (retP σ.length [.t 6] K) ⟨initT 0 args, σ⟩) : CallWp Try.prog n_spec_l1In args σ K := call_fn mixed Try.func72 k_spec_l1In hn hw
def l0_spec_l5Run : LC := .seq (.seq (.ops [⟨some 85, none, .mv (.t 16)⟩,
      ⟨some 86, none, .mv (.t 11)⟩,
      ⟨some 87, none, .len (.t 86)⟩,
      ⟨some 88, none, .bin .lss (.t 85) (.t 87)⟩])
    (.cond (.t 88) (.skip)
    (.exit 8)))
    (.seq (.block 9 (.draw 16 [⟨some 91, none, .mv (.t 11)⟩,
      ⟨some 92, none, .mv (.t 16)⟩,
      ⟨some 93, none, .mv (.t 11)⟩,
      ⟨some 94, none, .mv (.t 16)⟩,
      ⟨some 95, none, .ia 5 (.t 93) (.t 94)⟩,
      ⟨some 96, none, .ldn 5 (.t 95)⟩,
      ⟨some 97, none, .mv (.t 1)⟩,
      ⟨some 98, none, .mv (.t 16)⟩,
      ⟨some 99, none, .ia 2 (.t 97) (.t 98)⟩,
      ⟨some 100, none, .ldn 2 (.t 99)⟩,
      ⟨some 101, none, .mv (.t 2)⟩,
      ⟨some 102, none, .mv (.t 16)⟩,
      ⟨some 103, none, .ia 1 (.t 101) (.t 102)⟩,
      ⟨some 104, none, .ld (.t 103)⟩,
      ⟨some 105, none, .mv (.t 15)⟩,
      ⟨some 106, none, .call (.k (.fn n_spec_l5Arrive [] [])) [.t 96, .t 100, .t 104, .t 105]⟩,
      ⟨some 107, none, .ia 5 (.t 91) (.t 92)⟩,
      ⟨none, none, .st 5 (.t 107) (.t 106)⟩]))
    (.ops [⟨some 89, none, .mv (.t 16)⟩,
      ⟨some 90, none, .bin .add (.t 89) (.k (.i .i64 1))⟩,
      ⟨some 16, none, .mv (.t 90)⟩]))
def l1_spec_l5Run : LC := .seq (.seq (.ops [⟨some 81, none, .mv (.t 15)⟩,
      ⟨some 82, none, .bin .lss (.t 81) (.k (.i .i64 120))⟩])
    (.cond (.t 82) (.skip)
    (.exit 6)))
    (.seq (.block 7 (.seq (.seq (.ops [⟨some 16, none, .mv (.k (.i .i64 0))⟩])
    (.block 8 (.loop l0_spec_l5Run)))
    (.seq (.ops [⟨some 108, none, .mv (.t 0)⟩,
      ⟨some 109, none, .mv (.t 8)⟩,
      ⟨some 110, none, .mv (.t 9)⟩,
      ⟨some 111, none, .mv (.t 15)⟩,
      ⟨some 112, none, .call (.k (.fn n_spec_l3Best [] [])) [.t 108, .t 109, .t 110, .t 111]⟩,
      ⟨some 17, none, .mv (.t 112)⟩])
    (.seq (.ops [⟨some 18, none, .mv (.k (.i .i64 1073741824))⟩])
    (.join (.seq (.ops [⟨some 113, none, .mv (.t 17)⟩,
      ⟨some 114, none, .bin .geq (.t 113) (.k (.i .i64 0))⟩])
    (.cond (.t 114) (.ops [⟨some 115, none, .mv (.t 9)⟩,
      ⟨some 116, none, .mv (.t 17)⟩,
      ⟨some 117, none, .ia 1 (.t 115) (.t 116)⟩,
      ⟨some 118, none, .ld (.t 117)⟩,
      ⟨some 18, none, .mv (.t 118)⟩])
    (.skip)))
    (.seq (.ops [⟨some 119, none, .mv (.t 11)⟩,
      ⟨some 120, none, .mv (.t 18)⟩,
      ⟨some 121, none, .call (.k (.fn n_spec_l5Pick [] [])) [.t 119, .t 120]⟩,
      ⟨some 19, none, .mv (.t 121)⟩])
    (.seq (.ops [⟨some 122, none, .fa 2 (.t 7)⟩,
      ⟨some 123, none, .ld (.t 122)⟩,
      ⟨some 124, none, .mv (.t 19)⟩,
      ⟨some 125, none, .bsl ty_int [.i .i64 0] 1 [(0, 1, .t 124)]⟩,
      ⟨some 126, none, .app ty_int 1 8 (.t 123) (.t 125)⟩,
      ⟨some 127, none, .fa 2 (.t 7)⟩,
      ⟨none, none, .st 1 (.t 127) (.t 126)⟩])
    (.seq (.seq (.ops [⟨some 128, none, .mv (.t 19)⟩,
      ⟨some 129, none, .bin .geq (.t 128) (.k (.i .i64 0))⟩])
    (.cond (.t 129) (.seq (.ops [⟨some 130, none, .mv (.t 11)⟩,
      ⟨some 131, none, .mv (.t 19)⟩,
      ⟨some 132, none, .ia 5 (.t 130) (.t 131)⟩,
      ⟨some 133, none, .fa 3 (.t 132)⟩,
      ⟨some 134, none, .ld (.t 133)⟩,
      ⟨some 20, none, .mv (.t 134)⟩])
    (.seq (.draw 15 [⟨some 135, none, .mv (.t 11)⟩,
      ⟨some 136, none, .mv (.t 19)⟩,
      ⟨some 137, none, .mv (.t 11)⟩,
      ⟨some 138, none, .mv (.t 19)⟩,
      ⟨some 139, none, .ia 5 (.t 137) (.t 138)⟩,
      ⟨some 140, none, .ldn 5 (.t 139)⟩,
      ⟨some 141, none, .mv (.t 1)⟩,
      ⟨some 142, none, .mv (.t 19)⟩,
      ⟨some 143, none, .ia 2 (.t 141) (.t 142)⟩,
      ⟨some 144, none, .ldn 2 (.t 143)⟩,
      ⟨some 145, none, .mv (.t 2)⟩,
      ⟨some 146, none, .mv (.t 19)⟩,
      ⟨some 147, none, .ia 1 (.t 145) (.t 146)⟩,
      ⟨some 148, none, .ld (.t 147)⟩,
      ⟨some 149, none, .call (.k (.fn n_spec_l5Serve [] [])) [.t 140, .t 144, .t 148]⟩,
      ⟨some 150, none, .ia 5 (.t 135) (.t 136)⟩,
      ⟨none, none, .st 5 (.t 150) (.t 149)⟩])
    (.join (.seq (.ops [⟨some 151, none, .mv (.t 11)⟩,
      ⟨some 152, none, .mv (.t 19)⟩,
      ⟨some 153, none, .ia 5 (.t 151) (.t 152)⟩,
      ⟨some 154, none, .fa 3 (.t 153)⟩,
      ⟨some 155, none, .ld (.t 154)⟩,
      ⟨some 156, none, .mv (.t 20)⟩,
      ⟨some 157, none, .bin .gtr (.t 155) (.t 156)⟩])
    (.cond (.t 157) (.ops [⟨some 158, none, .fa 3 (.t 7)⟩,
      ⟨some 159, none, .ld (.t 158)⟩,
      ⟨some 160, none, .mv (.t 19)⟩,
      ⟨some 161, none, .ia 1 (.t 159) (.t 160)⟩,
      ⟨some 162, none, .ld (.t 161)⟩,
      ⟨some 163, none, .mv (.t 20)⟩,
      ⟨some 164, none, .mv (.t 15)⟩,
      ⟨some 165, none, .bin .add (.t 164) (.k (.i .i64 1))⟩,
      ⟨some 166, none, .ia 1 (.t 162) (.t 163)⟩,
      ⟨none, none, .st 1 (.t 166) (.t 165)⟩])
    (.skip)))
    (.seq (.ops [⟨some 167, none, .fa 0 (.t 7)⟩,
      ⟨some 168, none, .fa 0 (.t 167)⟩,
      ⟨some 169, none, .ld (.t 168)⟩,
      ⟨some 170, none, .bsl ty_int [.i .i64 0] 1 [(0, 1, .k (.i .i64 (-1)))]⟩,
      ⟨some 171, none, .app ty_int 1 8 (.t 169) (.t 170)⟩,
      ⟨some 172, none, .fa 0 (.t 7)⟩,
      ⟨some 173, none, .fa 0 (.t 172)⟩,
      ⟨none, none, .st 1 (.t 173) (.t 171)⟩])
    (.exit 7)))))
    (.skip)))
    (.seq (.ops [⟨some 174, none, .fa 0 (.t 7)⟩,
      ⟨some 175, none, .fa 0 (.t 174)⟩,
      ⟨some 176, none, .ld (.t 175)⟩,
      ⟨some 177, none, .mv (.t 17)⟩,
      ⟨some 178, none, .bsl ty_int [.i .i64 0] 1 [(0, 1, .t 177)]⟩,
      ⟨some 179, none, .app ty_int 1 8 (.t 176) (.t 178)⟩,
      ⟨some 180, none, .fa 0 (.t 7)⟩,
      ⟨some 181, none, .fa 0 (.t 180)⟩,
      ⟨none, none, .st 1 (.t 181) (.t 179)⟩])
    (.seq (.ops [⟨some 182, none, .mv (.t 17)⟩,
      ⟨some 183, none, .bin .geq (.t 182) (.k (.i .i64 0))⟩])
    (.cond (.t 183) (.seq (.ops [⟨some 184, none, .mv (.t 8)⟩,
      ⟨some 185, none, .mv (.t 17)⟩,
      ⟨some 186, none, .mv (.t 8)⟩,
      ⟨some 187, none, .mv (.t 17)⟩,
      ⟨some 188, none, .ia 1 (.t 186) (.t 187)⟩,
      ⟨some 189, none, .ld (.t 188)⟩,
      ⟨some 190, none, .bin .sub (.t 189) (.k (.i .i64 1))⟩,
      ⟨some 191, none, .ia 1 (.t 184) (.t 185)⟩,
      ⟨none, none, .st 1 (.t 191) (.t 190)⟩])
    (.seq (.ops [⟨some 192, none, .mv (.t 8)⟩,
      ⟨some 193, none, .mv (.t 17)⟩,
      ⟨some 194, none, .ia 1 (.t 192) (.t 193)⟩,
      ⟨some 195, none, .ld (.t 194)⟩,
      ⟨some 196, none, .bin .eql (.t 195) (.k (.i .i64 0))⟩])
    (.cond (.t 196) (.ops [⟨some 197, none, .fa 0 (.t 7)⟩,
      ⟨some 198, none, .fa 1 (.t 197)⟩,
      ⟨some 199, none, .ld (.t 198)⟩,
      ⟨some 200, none, .mv (.t 17)⟩,
      ⟨some 201, none, .mv (.t 15)⟩,
      ⟨some 202, none, .bin .add (.t 201) (.k (.i .i64 1))⟩,
      ⟨some 203, none, .ia 1 (.t 199) (.t 200)⟩,
      ⟨none, none, .st 1 (.t 203) (.t 202)⟩])
    (.skip))))
    (.skip))))))))))))
    (.ops [⟨some 83, none, .mv (.t 15)⟩,
      ⟨some 84, none, .bin .add (.t 83) (.k (.i .i64 1))⟩,
      ⟨some 15, none, .mv (.t 84)⟩]))
def l2_spec_l5Run : LC := .seq (.seq (.ops [⟨some 63, none, .mv (.t 14)⟩,
      ⟨some 64, none, .mv (.t 2)⟩,
      ⟨some 65, none, .mv (.t 12)⟩,
      ⟨some 66, none, .ia 1 (.t 64) (.t 65)⟩,
      ⟨some 67, none, .ld (.t 66)⟩,
      ⟨some 68, none, .len (.t 67)⟩,
      ⟨some 69, none, .bin .lss (.t 63) (.t 68)⟩])
    (.cond (.t 69) (.skip)
    (.exit 4)))
    (.seq (.block 5 (.ops [⟨some 72, none, .mv (.t 13)⟩,
      ⟨some 73, none, .bsl ty_int [.i .i64 0] 1 [(0, 1, .k (.i .i64 (-1)))]⟩,
      ⟨some 74, none, .app ty_int 1 8 (.t 72) (.t 73)⟩,
      ⟨some 13, none, .mv (.t 74)⟩]))
    (.ops [⟨some 70, none, .mv (.t 14)⟩,
      ⟨some 71, none, .bin .add (.t 70) (.k (.i .i64 1))⟩,
      ⟨some 14, none, .mv (.t 71)⟩]))
def l3_spec_l5Run : LC := .seq (.seq (.ops [⟨some 47, none, .mv (.t 12)⟩,
      ⟨some 48, none, .mv (.t 1)⟩,
      ⟨some 49, none, .len (.t 48)⟩,
      ⟨some 50, none, .bin .lss (.t 47) (.t 49)⟩])
    (.cond (.t 50) (.skip)
    (.exit 2)))
    (.seq (.block 3 (.seq (.ops [⟨some 53, none, .mv (.t 11)⟩,
      ⟨some 54, none, .mv (.t 1)⟩,
      ⟨some 55, none, .mv (.t 12)⟩,
      ⟨some 56, none, .ia 2 (.t 54) (.t 55)⟩,
      ⟨some 57, none, .fa 0 (.t 56)⟩,
      ⟨some 58, none, .ld (.t 57)⟩,
      ⟨some 59, none, .build [.i .i64 0, .i .i64 0, .i .i64 0, .i .i64 0, .i .i64 0] [(0, 1, .t 58)]⟩,
      ⟨some 60, none, .bsl ty_spec_l5State [.i .i64 0, .i .i64 0, .i .i64 0, .i .i64 0, .i .i64 0] 1 [(0, 5, .t 59)]⟩,
      ⟨some 61, none, .app ty_spec_l5State 5 40 (.t 53) (.t 60)⟩,
      ⟨some 11, none, .mv (.t 61)⟩])
    (.seq (.ops [⟨some 62, none, .bsl ty_int [.i .i64 0] 0 []⟩,
      ⟨some 13, none, .mv (.t 62)⟩])
    (.seq (.seq (.ops [⟨some 14, none, .mv (.k (.i .i64 0))⟩])
    (.block 4 (.loop l2_spec_l5Run)))
    (.ops [⟨some 75, none, .fa 3 (.t 7)⟩,
      ⟨some 76, none, .ld (.t 75)⟩,
      ⟨some 77, none, .mv (.t 13)⟩,
      ⟨some 78, none, .bsl ty_sl_int [.sn] 1 [(0, 1, .t 77)]⟩,
      ⟨some 79, none, .app ty_sl_int 1 24 (.t 76) (.t 78)⟩,
      ⟨some 80, none, .fa 3 (.t 7)⟩,
      ⟨none, none, .st 1 (.t 80) (.t 79)⟩])))))
    (.ops [⟨some 51, none, .mv (.t 12)⟩,
      ⟨some 52, none, .bin .add (.t 51) (.k (.i .i64 1))⟩,
      ⟨some 12, none, .mv (.t 52)⟩]))
def l4_spec_l5Run : LC := .seq (.seq (.ops [⟨some 25, none, .mv (.t 10)⟩,
      ⟨some 26, none, .mv (.t 0)⟩,
      ⟨some 27, none, .len (.t 26)⟩,
      ⟨some 28, none, .bin .lss (.t 25) (.t 27)⟩])
    (.cond (.t 28) (.skip)
    (.exit 0)))
    (.seq (.block 1 (.seq (.ops [⟨some 31, none, .mv (.t 8)⟩,
      ⟨some 32, none, .mv (.t 0)⟩,
      ⟨some 33, none, .mv (.t 10)⟩,
      ⟨some 34, none, .ia 4 (.t 32) (.t 33)⟩,
      ⟨some 35, none, .fa 3 (.t 34)⟩,
      ⟨some 36, none, .ld (.t 35)⟩,
      ⟨some 37, none, .bsl ty_int [.i .i64 0] 1 [(0, 1, .t 36)]⟩,
      ⟨some 38, none, .app ty_int 1 8 (.t 31) (.t 37)⟩,
      ⟨some 8, none, .mv (.t 38)⟩])
    (.ops [⟨some 39, none, .fa 0 (.t 7)⟩,
      ⟨some 40, none, .fa 1 (.t 39)⟩,
      ⟨some 41, none, .ld (.t 40)⟩,
      ⟨some 42, none, .bsl ty_int [.i .i64 0] 1 [(0, 1, .k (.i .i64 (-1)))]⟩,
      ⟨some 43, none, .app ty_int 1 8 (.t 41) (.t 42)⟩,
      ⟨some 44, none, .fa 0 (.t 7)⟩,
      ⟨some 45, none, .fa 1 (.t 44)⟩,
      ⟨none, none, .st 1 (.t 45) (.t 43)⟩])))
    (.ops [⟨some 29, none, .mv (.t 10)⟩,
      ⟨some 30, none, .bin .add (.t 29) (.k (.i .i64 1))⟩,
      ⟨some 10, none, .mv (.t 30)⟩]))
def c_spec_l5Run : LC := .seq (.ops [⟨some 6, none, .alloc ty_impl_ServerRun [.sn, .sn, .sn, .sn]⟩])
    (.seq (.ops [⟨some 21, none, .build [.sn, .sn, .sn, .sn] []⟩,
      ⟨some 7, none, .alloc ty_impl_ServerRun [.sn, .sn, .sn, .sn]⟩,
      ⟨none, none, .st 4 (.t 7) (.t 21)⟩])
    (.seq (.ops [⟨some 22, none, .bsl ty_int [.i .i64 0] 0 []⟩,
      ⟨some 8, none, .mv (.t 22)⟩])
    (.seq (.ops [⟨some 23, none, .mv (.t 0)⟩,
      ⟨some 24, none, .call (.k (.fn n_spec_l3Deadlines [] [])) [.t 23]⟩,
      ⟨some 9, none, .mv (.t 24)⟩])
    (.seq (.seq (.ops [⟨some 10, none, .mv (.k (.i .i64 0))⟩])
    (.block 0 (.loop l4_spec_l5Run)))
    (.seq (.ops [⟨some 46, none, .bsl ty_spec_l5State [.i .i64 0, .i .i64 0, .i .i64 0, .i .i64 0, .i .i64 0] 0 []⟩,
      ⟨some 11, none, .mv (.t 46)⟩])
    (.seq (.seq (.ops [⟨some 12, none, .mv (.k (.i .i64 0))⟩])
    (.block 2 (.loop l3_spec_l5Run)))
    (.seq (.seq (.ops [⟨some 15, none, .mv (.k (.i .i64 0))⟩])
    (.block 6 (.loop l1_spec_l5Run)))
    (.seq (.ops [⟨some 204, none, .ldn 4 (.t 7)⟩,
      ⟨none, none, .st 4 (.t 6) (.t 204)⟩])
    (.ret)))))))))
theorem k_spec_l5Run : chkF Try.prog Try.f73 205 c_spec_l5Run [.c 6 (some 4)] = true := by kernel_rfl
theorem call_spec_l5Run {args : List AV} {σ : List AB} {K : AV → List AB → Prop} (hn : args.length ≤ 205) (hw : wpC Try.prog σ.length 205 c_spec_l5Run (retP σ.length [.c 6 (some 4)] K) ⟨initT 0 args, σ⟩) : CallWp Try.prog n_spec_l5Run args σ K := call_fn mixed Try.func73 k_spec_l5Run hn hw
def c_spec_l20Rd_pick : LC := .seq (.ops [⟨some 4, none, .mv (.k (.i .i64 0))⟩])
    (.seq (.ops [⟨some 7, none, .mv (.t 0)⟩,
      ⟨some 8, none, .mv (.t 0)⟩,
      ⟨some 9, none, .nilc (.t 8)⟩,
      ⟨some 10, none, .fa 1 (.t 9)⟩,
      ⟨some 11, none, .ld (.t 10)⟩,
      ⟨some 12, none, .bin .add (.t 11) (.k (.i .i64 1))⟩,
      ⟨some 13, none, .nilc (.t 7)⟩,
      ⟨some 14, none, .fa 1 (.t 13)⟩,
      ⟨none, none, .st 1 (.t 14) (.t 12)⟩])
    (.seq (.seq (.ops [⟨some 15, none, .mv (.t 1)⟩,
      ⟨some 16, none, .bin .lss (.t 15) (.k (.i .i64 1))⟩,
      ⟨some 17, none, .mv (.t 16)⟩,
      ⟨some 18, (some (17, false)), .mv (.t 0)⟩,
      ⟨some 19, (some (17, false)), .nilc (.t 18)⟩,
      ⟨some 20, (some (17, false)), .fa 0 (.t 19)⟩,
      ⟨some 21, (some (17, false)), .ld (.t 20)⟩,
      ⟨some 22, (some (17, false)), .len (.t 21)⟩,
      ⟨some 23, (some (17, false)), .bin .eql (.t 22) (.k (.i .i64 0))⟩,
      ⟨some 24, none, .pick (.t 17) (.k (.b true)) (.t 23)⟩])
    (.cond (.t 24) (.seq (.ops [⟨some 4, none, .mv (.k (.i .i64 0))⟩])
    (.ret))
    (.skip)))
    (.seq (.ops [⟨some 25, none, .mv (.t 0)⟩,
      ⟨some 26, none, .nilc (.t 25)⟩,
      ⟨some 27, none, .fa 1 (.t 26)⟩,
      ⟨some 28, none, .ld (.t 27)⟩,
      ⟨some 29, none, .bin .sub (.t 28) (.k (.i .i64 1))⟩,
      ⟨some 5, none, .mv (.t 29)⟩])
    (.seq (.seq (.ops [⟨some 30, none, .mv (.t 5)⟩,
      ⟨some 31, none, .mv (.t 0)⟩,
      ⟨some 32, none, .nilc (.t 31)⟩,
      ⟨some 33, none, .fa 0 (.t 32)⟩,
      ⟨some 34, none, .ld (.t 33)⟩,
      ⟨some 35, none, .len (.t 34)⟩,
      ⟨some 36, none, .bin .lss (.t 30) (.t 35)⟩])
    (.cond (.t 36) (.seq (.ops [⟨some 37, none, .mv (.t 0)⟩,
      ⟨some 38, none, .nilc (.t 37)⟩,
      ⟨some 39, none, .fa 0 (.t 38)⟩,
      ⟨some 40, none, .ld (.t 39)⟩,
      ⟨some 41, none, .mv (.t 5)⟩,
      ⟨some 42, none, .ia 1 (.t 40) (.t 41)⟩,
      ⟨some 43, none, .ld (.t 42)⟩,
      ⟨some 44, none, .conv .i64 (.t 43)⟩,
      ⟨some 45, none, .mv (.t 1)⟩,
      ⟨some 46, none, .bin .rem (.t 44) (.t 45)⟩,
      ⟨some 4, none, .mv (.t 46)⟩])
    (.ret))
    (.skip)))
    (.seq (.draw 45 [⟨some 47, none, .mv (.t 0)⟩,
      ⟨some 48, none, .nilc (.t 47)⟩,
      ⟨some 49, none, .fa 0 (.t 48)⟩,
      ⟨some 50, none, .ld (.t 49)⟩,
      ⟨some 51, none, .mv (.t 5)⟩,
      ⟨some 52, none, .mv (.t 0)⟩,
      ⟨some 53, none, .nilc (.t 52)⟩,
      ⟨some 54, none, .fa 0 (.t 53)⟩,
      ⟨some 55, none, .ld (.t 54)⟩,
      ⟨some 56, none, .len (.t 55)⟩,
      ⟨some 57, none, .bin .rem (.t 51) (.t 56)⟩,
      ⟨some 58, none, .ia 1 (.t 50) (.t 57)⟩,
      ⟨some 59, none, .ld (.t 58)⟩,
      ⟨some 60, none, .conv .i64 (.t 59)⟩,
      ⟨some 61, none, .bin .mul (.t 60) (.k (.i .i64 131))⟩,
      ⟨some 62, none, .mv (.t 0)⟩,
      ⟨some 63, none, .nilc (.t 62)⟩,
      ⟨some 64, none, .fa 0 (.t 63)⟩,
      ⟨some 65, none, .ld (.t 64)⟩,
      ⟨some 66, none, .mv (.t 5)⟩,
      ⟨some 67, none, .bin .mul (.t 66) (.k (.i .i64 7))⟩,
      ⟨some 68, none, .bin .add (.t 67) (.k (.i .i64 3))⟩,
      ⟨some 69, none, .mv (.t 0)⟩,
      ⟨some 70, none, .nilc (.t 69)⟩,
      ⟨some 71, none, .fa 0 (.t 70)⟩,
      ⟨some 72, none, .ld (.t 71)⟩,
      ⟨some 73, none, .len (.t 72)⟩,
      ⟨some 74, none, .bin .rem (.t 68) (.t 73)⟩,
      ⟨some 75, none, .ia 1 (.t 65) (.t 74)⟩,
      ⟨some 76, none, .ld (.t 75)⟩,
      ⟨some 77, none, .conv .i64 (.t 76)⟩,
      ⟨some 78, none, .bin .mul (.t 77) (.k (.i .i64 1117))⟩,
      ⟨some 79, none, .bin .add (.t 61) (.t 78)⟩,
      ⟨some 80, none, .mv (.t 5)⟩,
      ⟨some 81, none, .bin .mul (.t 80) (.k (.i .i64 29))⟩,
      ⟨some 82, none, .bin .add (.t 79) (.t 81)⟩,
      ⟨some 83, none, .mv (.t 5)⟩,
      ⟨some 84, none, .mv (.t 0)⟩,
      ⟨some 85, none, .nilc (.t 84)⟩,
      ⟨some 86, none, .fa 0 (.t 85)⟩,
      ⟨some 87, none, .ld (.t 86)⟩,
      ⟨some 88, none, .len (.t 87)⟩,
      ⟨some 89, none, .bin .quo (.t 83) (.t 88)⟩,
      ⟨some 90, none, .bin .mul (.t 89) (.k (.i .i64 53))⟩,
      ⟨some 91, none, .bin .add (.t 82) (.t 90)⟩,
      ⟨some 6, none, .mv (.t 91)⟩])
    (.seq (.ops [⟨some 92, none, .mv (.t 6)⟩,
      ⟨some 93, none, .mv (.t 6)⟩,
      ⟨some 94, none, .bin .quo (.t 93) (.k (.i .i64 64))⟩,
      ⟨some 95, none, .bin .xor (.t 92) (.t 94)⟩,
      ⟨some 6, none, .mv (.t 95)⟩])
    (.seq (.ops [⟨some 96, none, .mv (.t 6)⟩,
      ⟨some 97, none, .mv (.t 1)⟩,
      ⟨some 98, none, .bin .rem (.t 96) (.t 97)⟩,
      ⟨some 4, none, .mv (.t 98)⟩])
    (.ret))))))))
theorem k_spec_l20Rd_pick : chkF Try.prog Try.f78 99 c_spec_l20Rd_pick [.t 4] = true := by kernel_rfl
theorem call_spec_l20Rd_pick {args : List AV} {σ : List AB} {K : AV → List AB → Prop} (hn : args.length ≤ 99) (hw : wpC Try.prog σ.length 99 c_spec_l20Rd_pick (retP σ.length [.t 4] K) ⟨initT 0 args, σ⟩) : CallWp Try.prog n_spec_l20Rd_pick args σ K := call_fn mixed Try.func78 k_spec_l20Rd_pick hn hw
def c_spec_l20Task : LC := .seq (.ops [⟨some 4, none, .alloc ty_impl_Task [.i .i64 0, .i .i64 0, .i .i64 0]⟩])
    (.seq (.ops [⟨some 6, none, .mv (.t 0)⟩,
      ⟨some 7, none, .call (.k (.fn n_spec_l20Rd_pick [] [])) [.t 6, .k (.i .i64 12)]⟩,
      ⟨some 8, none, .bin .add (.k (.i .i64 1)) (.t 7)⟩,
      ⟨some 9, none, .bsl ty_int [.i .i64 0] 8 [(0, 1, .k (.i .i64 2)), (1, 1, .k (.i .i64 3)), (2, 1, .k (.i .i64 4)), (3, 1, .k (.i .i64 6)), (4, 1, .k (.i .i64 8)), (5, 1, .k (.i .i64 12)), (6, 1, .t 8), (7, 1, .k (.i .i64 5))]⟩,
      ⟨some 10, none, .mv (.t 0)⟩,
      ⟨some 11, none, .call (.k (.fn n_spec_l20Rd_pick [] [])) [.t 10, .k (.i .i64 8)]⟩,
      ⟨some 12, none, .ia 1 (.t 9) (.t 11)⟩,
      ⟨some 13, none, .ld (.t 12)⟩,
      ⟨some 14, none, .build [.i .i64 0, .i .i64 0, .i .i64 0] [(2, 1, .t 13)]⟩,
      ⟨some 5, none, .alloc ty_impl_Task [.i .i64 0, .i .i64 0, .i .i64 0]⟩,
      ⟨none, none, .st 3 (.t 5) (.t 14)⟩])
    (.join (.plan [0, 1, 2, 3, 4, 7, 8, 9, 10, 12] [⟨some 15, none, .fa 2 (.t 5)⟩,
      ⟨some 16, none, .ld (.t 15)⟩,
      ⟨some 17, none, .mv (.t 0)⟩,
      ⟨some 18, none, .fa 2 (.t 5)⟩,
      ⟨some 19, none, .ld (.t 18)⟩,
      ⟨some 22, none, .fa 2 (.t 5)⟩,
      ⟨some 23, none, .ld (.t 22)⟩,
      ⟨some 24, none, .bin .sub (.t 23) (.k (.i .i64 1))⟩,
      ⟨some 25, none, .mx (.k (.i .i64 1)) (.t 24)⟩,
      ⟨some 27, none, .mv (.t 0)⟩]
      (.one 5 ⟨some 20, none, .call (.k (.fn n_spec_l20Rd_pick [] [])) [.t 17, .t 19]⟩ [(16, none, 15), (23, none, 22)] [6]
        [⟨some 21, none, .bin .add (.k (.i .i64 1)) (.t 20)⟩]
      (.alt (.one 11 ⟨some 26, none, .bsl ty_int [.i .i64 0] 3 [(0, 1, .t 16), (1, 1, .t 21), (2, 1, .t 25)]⟩ [(19, none, 18), (23, none, 22)] []
        []
      (.one 13 ⟨some 28, none, .call (.k (.fn n_spec_l20Rd_pick [] [])) [.t 27, .k (.i .i64 3)]⟩ [(16, none, 15), (19, none, 18), (23, none, 22)] [14, 15, 16]
        [⟨some 29, none, .ia 1 (.t 26) (.t 28)⟩,
        ⟨some 30, none, .ld (.t 29)⟩,
        ⟨some 31, none, .fa 1 (.t 5)⟩]
      (.one 17 ⟨none, none, .st 1 (.t 31) (.t 30)⟩ [] []
        []
      .fin))) (.one 13 ⟨some 28, none, .call (.k (.fn n_spec_l20Rd_pick [] [])) [.t 27, .k (.i .i64 3)]⟩ [(16, none, 15), (19, none, 18), (23, none, 22)] []
        []
      (.one 11 ⟨some 26, none, .bsl ty_int [.i .i64 0] 3 [(0, 1, .t 16), (1, 1, .t 21), (2, 1, .t 25)]⟩ [(19, none, 18), (23, none, 22)] [14, 15, 16]
        [⟨some 29, none, .ia 1 (.t 26) (.t 28)⟩,
        ⟨some 30, none, .ld (.t 29)⟩,
        ⟨some 31, none, .fa 1 (.t 5)⟩]
      (.one 17 ⟨none, none, .st 1 (.t 31) (.t 30)⟩ [] []
        []
      .fin))))))
    (.join (.plan [0, 1, 2, 3, 4, 5, 6, 7, 8, 9, 10, 12] [⟨some 32, none, .mv (.t 0)⟩,
      ⟨some 33, none, .fa 1 (.t 5)⟩,
      ⟨some 34, none, .ld (.t 33)⟩,
      ⟨some 35, none, .fa 1 (.t 5)⟩,
      ⟨some 36, none, .ld (.t 35)⟩,
      ⟨some 37, none, .bin .quo (.t 36) (.k (.i .i64 2))⟩,
      ⟨some 38, none, .mx (.k (.i .i64 1)) (.t 37)⟩,
      ⟨some 39, none, .fa 1 (.t 5)⟩,
      ⟨some 40, none, .ld (.t 39)⟩,
      ⟨some 41, none, .bin .quo (.t 40) (.k (.i .i64 3))⟩,
      ⟨some 42, none, .mx (.k (.i .i64 1)) (.t 41)⟩,
      ⟨some 44, none, .mv (.t 0)⟩]
      (.alt (.one 11 ⟨some 43, none, .bsl ty_int [.i .i64 0] 3 [(0, 1, .t 34), (1, 1, .t 38), (2, 1, .t 42)]⟩ [(36, none, 35), (40, none, 39)] []
        []
      (.one 13 ⟨some 45, none, .call (.k (.fn n_spec_l20Rd_pick [] [])) [.t 44, .k (.i .i64 3)]⟩ [(34, none, 33), (36, none, 35), (40, none, 39)] [14, 15, 16]
        [⟨some 46, none, .ia 1 (.t 43) (.t 45)⟩,
        ⟨some 47, none, .ld (.t 46)⟩,
        ⟨some 48, none, .mn (.k (.i .i64 8)) (.t 47)⟩]
      (.one 17 ⟨some 49, none, .call (.k (.fn n_spec_l20Rd_pick [] [])) [.t 32, .t 48]⟩ [(34, none, 33), (36, none, 35), (40, none, 39), (47, none, 46)] [18, 19]
        [⟨some 50, none, .bin .add (.k (.i .i64 1)) (.t 49)⟩,
        ⟨some 51, none, .fa 0 (.t 5)⟩]
      (.one 20 ⟨none, none, .st 1 (.t 51) (.t 50)⟩ [] []
        []
      .fin)))) (.one 13 ⟨some 45, none, .call (.k (.fn n_spec_l20Rd_pick [] [])) [.t 44, .k (.i .i64 3)]⟩ [(34, none, 33), (36, none, 35), (40, none, 39)] []
        []
      (.one 11 ⟨some 43, none, .bsl ty_int [.i .i64 0] 3 [(0, 1, .t 34), (1, 1, .t 38), (2, 1, .t 42)]⟩ [(36, none, 35), (40, none, 39)] [14, 15, 16]
        [⟨some 46, none, .ia 1 (.t 43) (.t 45)⟩,
        ⟨some 47, none, .ld (.t 46)⟩,
        ⟨some 48, none, .mn (.k (.i .i64 8)) (.t 47)⟩]
      (.one 17 ⟨some 49, none, .call (.k (.fn n_spec_l20Rd_pick [] [])) [.t 32, .t 48]⟩ [(34, none, 33), (36, none, 35), (40, none, 39), (47, none, 46)] [18, 19]
        [⟨some 50, none, .bin .add (.k (.i .i64 1)) (.t 49)⟩,
        ⟨some 51, none, .fa 0 (.t 5)⟩]
      (.one 20 ⟨none, none, .st 1 (.t 51) (.t 50)⟩ [] []
        []
      .fin))))))
    (.join (.seq (.ops [⟨some 52, none, .mv (.t 0)⟩,
      ⟨some 53, none, .mv (.t 1)⟩,
      ⟨some 54, none, .call (.k (.fn n_spec_l20Rd_odd [] [])) [.t 52, .t 53]⟩])
    (.cond (.t 54) (.seq (.ops [⟨some 55, none, .mv (.t 0)⟩,
      ⟨some 56, none, .call (.k (.fn n_spec_l20Rd_pick [] [])) [.t 55, .k (.i .i64 3)]⟩])
    (.block 0 (.seq (.ops [⟨some 64, none, .bin .eql (.t 56) (.k (.i .i64 0))⟩,
      ⟨some 63, none, .mv (.t 64)⟩])
    (.cond (.t 63) (.plan [0, 1, 2, 4] [⟨some 65, none, .fa 1 (.t 5)⟩,
      ⟨some 66, none, .ld (.t 65)⟩,
      ⟨some 67, none, .bin .add (.t 66) (.k (.i .i64 1))⟩,
      ⟨some 69, none, .mv (.t 0)⟩]
      (.alt (.one 3 ⟨some 68, none, .bsl ty_int [.i .i64 0] 4 [(0, 1, .k (.i .i64 0)), (1, 1, .k (.i .i64 (-1))), (2, 1, .k (.i .i64 9)), (3, 1, .t 67)]⟩ [(66, none, 65)] []
        []
      (.one 5 ⟨some 70, none, .call (.k (.fn n_spec_l20Rd_pick [] [])) [.t 69, .k (.i .i64 4)]⟩ [(66, none, 65)] [6, 7, 8]
        [⟨some 71, none, .ia 1 (.t 68) (.t 70)⟩,
        ⟨some 72, none, .ld (.t 71)⟩,
        ⟨some 73, none, .fa 0 (.t 5)⟩]
      (.one 9 ⟨none, none, .st 1 (.t 73) (.t 72)⟩ [] []
        []
      .fin))) (.one 5 ⟨some 70, none, .call (.k (.fn n_spec_l20Rd_pick [] [])) [.t 69, .k (.i .i64 4)]⟩ [(66, none, 65)] []
        []
      (.one 3 ⟨some 68, none, .bsl ty_int [.i .i64 0] 4 [(0, 1, .k (.i .i64 0)), (1, 1, .k (.i .i64 (-1))), (2, 1, .k (.i .i64 9)), (3, 1, .t 67)]⟩ [(66, none, 65)] [6, 7, 8]
        [⟨some 71, none, .ia 1 (.t 68) (.t 70)⟩,
        ⟨some 72, none, .ld (.t 71)⟩,
        ⟨some 73, none, .fa 0 (.t 5)⟩]
      (.one 9 ⟨none, none, .st 1 (.t 73) (.t 72)⟩ [] []
        []
      .fin)))))
    (.seq (.ops [⟨some 75, none, .bin .eql (.t 56) (.k (.i .i64 1))⟩,
      ⟨some 74, none, .mv (.t 75)⟩])
    (.cond (.t 74) (.plan [0, 1, 2, 4] [⟨some 76, none, .fa 2 (.t 5)⟩,
      ⟨some 77, none, .ld (.t 76)⟩,
      ⟨some 78, none, .bin .add (.t 77) (.k (.i .i64 1))⟩,
      ⟨some 80, none, .mv (.t 0)⟩]
      (.alt (.one 3 ⟨some 79, none, .bsl ty_int [.i .i64 0] 3 [(0, 1, .k (.i .i64 0)), (1, 1, .t 78), (2, 1, .k (.i .i64 (-1)))]⟩ [(77, none, 76)] []
        []
      (.one 5 ⟨some 81, none, .call (.k (.fn n_spec_l20Rd_pick [] [])) [.t 80, .k (.i .i64 3)]⟩ [(77, none, 76)] [6, 7, 8]
        [⟨some 82, none, .ia 1 (.t 79) (.t 81)⟩,
        ⟨some 83, none, .ld (.t 82)⟩,
        ⟨some 84, none, .fa 1 (.t 5)⟩]
      (.one 9 ⟨none, none, .st 1 (.t 84) (.t 83)⟩ [] []
        []
      .fin))) (.one 5 ⟨some 81, none, .call (.k (.fn n_spec_l20Rd_pick [] [])) [.t 80, .k (.i .i64 3)]⟩ [(77, none, 76)] []
        []
      (.one 3 ⟨some 79, none, .bsl ty_int [.i .i64 0] 3 [(0, 1, .k (.i .i64 0)), (1, 1, .t 78), (2, 1, .k (.i .i64 (-1)))]⟩ [(77, none, 76)] [6, 7, 8]
        [⟨some 82, none, .ia 1 (.t 79) (.t 81)⟩,
        ⟨some 83, none, .ld (.t 82)⟩,
        ⟨some 84, none, .fa 1 (.t 5)⟩]
      (.one 9 ⟨none, none, .st 1 (.t 84) (.t 83)⟩ [] []
        []
      .fin)))))
    (.ops [⟨some 57, none, .bsl ty_int [.i .i64 0] 3 [(0, 1, .k (.i .i64 0)), (1, 1, .k (.i .i64 13)), (2, 1, .k (.i .i64 (-1)))]⟩,
      ⟨some 58, none, .mv (.t 0)⟩,
      ⟨some 59, none, .call (.k (.fn n_spec_l20Rd_pick [] [])) [.t 58, .k (.i .i64 3)]⟩,
      ⟨some 60, none, .ia 1 (.t 57) (.t 59)⟩,
      ⟨some 61, none, .ld (.t 60)⟩,
      ⟨some 62, none, .fa 2 (.t 5)⟩,
      ⟨none, none, .st 1 (.t 62) (.t 61)⟩])))))))
    (.skip)))
    (.seq (.ops [⟨some 85, none, .ldn 3 (.t 5)⟩,
      ⟨none, none, .st 3 (.t 4) (.t 85)⟩])
    (.ret))))))
theorem k_spec_l20Task : chkF Try.prog Try.f79 86 c_spec_l20Task [.c 4 (some 3)] = true := by kernel_rfl
theorem call_spec_l20Task {args : List AV} {σ : List AB} {K : AV → List AB → Prop} (hn : args.length ≤ 86) (hw : wpC Try.prog σ.length 86 c_spec_l20Task (retP σ.length [.c 4 (some 3)] K) ⟨initT 0 args, σ⟩) : CallWp Try.prog n_spec_l20Task args σ K := call_fn mixed Try.func79 k_spec_l20Task hn hw
def c_spec_TaskValid : LC := .seq (.ops [⟨some 1, none, .box ty_impl_Task (.t 0)⟩,
      ⟨some 2, none, .mv (.k (.b false))⟩])
    (.seq (.ops [⟨some 3, none, .fa 0 (.t 1)⟩,
      ⟨some 4, none, .ld (.t 3)⟩,
      ⟨some 5, none, .call (.k (.fn n_spec_l1In [] [])) [.t 4, .k (.i .i64 1), .k (.i .i64 8)]⟩,
      ⟨some 6, none, .mv (.t 5)⟩,
      ⟨some 7, (some (6, true)), .fa 1 (.t 1)⟩,
      ⟨some 8, (some (6, true)), .ld (.t 7)⟩,
      ⟨some 9, (some (6, true)), .fa 0 (.t 1)⟩,
      ⟨some 10, (some (6, true)), .ld (.t 9)⟩,
      ⟨some 11, (some (6, true)), .fa 2 (.t 1)⟩,
      ⟨some 12, (some (6, true)), .ld (.t 11)⟩,
      ⟨some 13, (some (6, true)), .call (.k (.fn n_spec_l1In [] [])) [.t 8, .t 10, .t 12]⟩,
      ⟨some 14, none, .pick (.t 6) (.t 13) (.k (.b false))⟩,
      ⟨some 15, none, .mv (.t 14)⟩,
      ⟨some 16, (some (15, true)), .fa 2 (.t 1)⟩,
      ⟨some 17, (some (15, true)), .ld (.t 16)⟩,
      ⟨some 18, (some (15, true)), .call (.k (.fn n_spec_l1In [] [])) [.t 17, .k (.i .i64 1), .k (.i .i64 12)]⟩,
      ⟨some 19, none, .pick (.t 15) (.t 18) (.k (.b false))⟩,
      ⟨some 2, none, .mv (.t 19)⟩])
    (.ret))
theorem k_spec_TaskValid : chkF Try.prog Try.f80 20 c_spec_TaskValid [.t 2] = true := by kernel_rfl
theorem call_spec_TaskValid {args : List AV} {σ : List AB} {K : AV → List AB → Prop} (hn : args.length ≤ 20) (hw : wpC Try.prog σ.length 20 c_spec_TaskValid (retP σ.length [.t 2] K) ⟨initT 0 args, σ⟩) : CallWp Try.prog n_spec_TaskValid args σ K := call_fn mixed Try.func80 k_spec_TaskValid hn hw
def c_impl_in : LC := .seq (.ops [⟨some 6, none, .mv (.k (.b false))⟩])
    (.seq (.ops [⟨some 7, none, .mv (.t 0)⟩,
      ⟨some 8, none, .mv (.t 1)⟩,
      ⟨some 9, none, .bin .geq (.t 7) (.t 8)⟩,
      ⟨some 10, none, .mv (.t 9)⟩,
      ⟨some 11, (some (10, true)), .mv (.t 0)⟩,
      ⟨some 12, (some (10, true)), .mv (.t 2)⟩,
      ⟨some 13, (some (10, true)), .bin .leq (.t 11) (.t 12)⟩,
      ⟨some 14, none, .pick (.t 10) (.t 13) (.k (.b false))⟩,
      ⟨some 6, none, .mv (.t 14)⟩])
    (.ret))
theorem k_impl_in : chkF Try.prog Try.f81 15 c_impl_in [.t 6] = true := by kernel_rfl
theorem call_impl_in {args : List AV} {σ : List AB} {K : AV → List AB → Prop} (hn : args.length ≤ 15) (hw : wpC Try.prog σ.length 15 c_impl_in (retP σ.length [.t 6] K) ⟨initT 0 args, σ⟩) : CallWp Try.prog n_impl_in args σ K := call_fn mixed Try.func81 k_impl_in hn hw
def l0_impl_ordered : LC := .seq (.ops [⟨some 12, none, .bin .lss (.t 11) (.t 10)⟩])
    (.seq (.cond (.t 12) (.skip)
    (.exit 0))
    (.seq (.block 1 (.seq (.ops [⟨some 13, none, .mv (.t 11)⟩,
      ⟨some 14, none, .ia 4 (.t 9) (.t 11)⟩,
      ⟨some 15, none, .ldn 4 (.t 14)⟩,
      ⟨some 8, none, .alloc ty_impl_Job [.i .i64 0, .i .i64 0, .i .i64 0, .i .i64 0]⟩,
      ⟨some 7, none, .mv (.t 13)⟩,
      ⟨none, none, .st 4 (.t 8) (.t 15)⟩])
    (.seq (.seq (.draw 22 [⟨some 16, none, .fa 0 (.t 8)⟩,
      ⟨some 17, none, .ld (.t 16)⟩,
      ⟨some 18, none, .mv (.t 1)⟩,
      ⟨some 19, none, .bin .sub (.t 18) (.k (.i .i64 1))⟩,
      ⟨some 20, none, .call (.k (.fn n_impl_in [] [])) [.t 17, .k (.i .i64 0), .t 19]⟩,
      ⟨some 21, none, .not (.t 20)⟩,
      ⟨some 22, none, .mv (.t 21)⟩,
      ⟨some 23, (some (22, false)), .fa 1 (.t 8)⟩,
      ⟨some 24, (some (22, false)), .ld (.t 23)⟩,
      ⟨some 25, (some (22, false)), .call (.k (.fn n_impl_in [] [])) [.t 24, .k (.i .i64 0), .k (.i .i64 119)]⟩,
      ⟨some 26, (some (22, false)), .not (.t 25)⟩,
      ⟨some 27, none, .pick (.t 22) (.k (.b true)) (.t 26)⟩,
      ⟨some 28, none, .mv (.t 27)⟩,
      ⟨some 29, (some (28, false)), .fa 3 (.t 8)⟩,
      ⟨some 30, (some (28, false)), .ld (.t 29)⟩,
      ⟨some 31, (some (28, false)), .mv (.t 2)⟩,
      ⟨some 32, (some (28, false)), .fa 0 (.t 8)⟩,
      ⟨some 33, (some (28, false)), .ld (.t 32)⟩,
      ⟨some 34, (some (28, false)), .call (.t 31) [.t 33]⟩,
      ⟨some 35, (some (28, false)), .call (.k (.fn n_impl_in [] [])) [.t 30, .k (.i .i64 1), .t 34]⟩,
      ⟨some 36, (some (28, false)), .not (.t 35)⟩,
      ⟨some 37, none, .pick (.t 28) (.k (.b true)) (.t 36)⟩])
    (.cond (.t 37) (.seq (.ops [⟨some 6, none, .mv (.k (.b false))⟩])
    (.ret))
    (.skip)))
    (.seq (.draw 35 [⟨some 38, none, .mv (.t 7)⟩,
      ⟨some 39, none, .bin .gtr (.t 38) (.k (.i .i64 0))⟩,
      ⟨some 40, none, .mv (.t 39)⟩,
      ⟨some 41, (some (40, true)), .mv (.t 0)⟩,
      ⟨some 42, (some (40, true)), .mv (.t 7)⟩,
      ⟨some 43, (some (40, true)), .bin .sub (.t 42) (.k (.i .i64 1))⟩,
      ⟨some 44, (some (40, true)), .ia 4 (.t 41) (.t 43)⟩,
      ⟨some 45, (some (40, true)), .fa 1 (.t 44)⟩,
      ⟨some 46, (some (40, true)), .ld (.t 45)⟩,
      ⟨some 47, (some (40, true)), .fa 1 (.t 8)⟩,
      ⟨some 48, (some (40, true)), .ld (.t 47)⟩,
      ⟨some 49, (some (40, true)), .bin .gtr (.t 46) (.t 48)⟩,
      ⟨some 50, (some (40, true)), .mv (.t 49)⟩,
      ⟨some 51, (some (50, false)), .mv (.t 0)⟩,
      ⟨some 52, (some (50, false)), .mv (.t 7)⟩,
      ⟨some 53, (some (50, false)), .bin .sub (.t 52) (.k (.i .i64 1))⟩,
      ⟨some 54, (some (50, false)), .ia 4 (.t 51) (.t 53)⟩,
      ⟨some 55, (some (50, false)), .fa 1 (.t 54)⟩,
      ⟨some 56, (some (50, false)), .ld (.t 55)⟩,
      ⟨some 57, (some (50, false)), .fa 1 (.t 8)⟩,
      ⟨some 58, (some (50, false)), .ld (.t 57)⟩,
      ⟨some 59, (some (50, false)), .bin .eql (.t 56) (.t 58)⟩,
      ⟨some 60, (some (50, false)), .mv (.t 59)⟩,
      ⟨some 61, (some (60, true)), .mv (.t 0)⟩,
      ⟨some 62, (some (60, true)), .mv (.t 7)⟩,
      ⟨some 63, (some (60, true)), .bin .sub (.t 62) (.k (.i .i64 1))⟩,
      ⟨some 64, (some (60, true)), .ia 4 (.t 61) (.t 63)⟩,
      ⟨some 65, (some (60, true)), .fa 0 (.t 64)⟩,
      ⟨some 66, (some (60, true)), .ld (.t 65)⟩,
      ⟨some 67, (some (60, true)), .fa 0 (.t 8)⟩,
      ⟨some 68, (some (60, true)), .ld (.t 67)⟩,
      ⟨some 69, (some (60, true)), .bin .geq (.t 66) (.t 68)⟩,
      ⟨some 70, (some (50, false)), .pick (.t 60) (.t 69) (.k (.b false))⟩,
      ⟨some 71, (some (40, true)), .pick (.t 50) (.k (.b true)) (.t 70)⟩,
      ⟨some 72, none, .pick (.t 40) (.t 71) (.k (.b false))⟩])
    (.cond (.t 72) (.seq (.ops [⟨some 6, none, .mv (.k (.b false))⟩])
    (.ret))
    (.skip))))))
    (.ops [⟨some 73, none, .bin .add (.t 11) (.k (.i .i64 1))⟩,
      ⟨some 11, none, .mv (.t 73)⟩])))
def c_impl_ordered : LC := .seq (.ops [⟨some 6, none, .mv (.k (.b false))⟩])
    (.seq (.seq (.ops [⟨some 9, none, .mv (.t 0)⟩,
      ⟨some 10, none, .len (.t 9)⟩,
      ⟨some 11, none, .mv (.k (.i .i64 0))⟩])
    (.block 0 (.loop l0_impl_ordered)))
    (.seq (.ops [⟨some 74, none, .mv (.t 0)⟩,
      ⟨some 75, none, .len (.t 74)⟩,
      ⟨some 76, none, .bin .leq (.t 75) (.k (.i .i64 60))⟩,
      ⟨some 6, none, .mv (.t 76)⟩])
    (.ret)))
theorem k_impl_ordered : chkF Try.prog Try.f82 77 c_impl_ordered [.t 6] = true := by kernel_rfl
theorem callC_impl_ordered {args : List AV} {σ : List AB} {K : AV → List AB → Prop} (hn : args.length ≤ 77) (hw : Closed σ → args.all (below1 σ.length) = true → wpC Try.prog σ.length 77 c_impl_ordered (retP σ.length [.t 6] K) ⟨initT 0 args, σ⟩) : CallWp Try.prog n_impl_ordered args σ K := call_fnC mixed Try.func82 k_impl_ordered hn hw
def c_impl_JobsLegal_1 : LC := .seq (.ops [⟨some 3, none, .mv (.k (.i .i64 0))⟩])
    (.seq (.ops [⟨some 4, none, .ld (.t 1)⟩,
      ⟨some 5, none, .mv (.t 0)⟩,
      ⟨some 6, none, .ia 3 (.t 4) (.t 5)⟩,
      ⟨some 7, none, .fa 0 (.t 6)⟩,
      ⟨some 8, none, .ld (.t 7)⟩,
      ⟨some 3, none, .mv (.t 8)⟩])
    (.ret))
theorem k_impl_JobsLegal_1 : chkF Try.prog Try.f83 9 c_impl_JobsLegal_1 [.t 3] = true := by kernel_rfl
theorem call_impl_JobsLegal_1 {args : List AV} {σ : List AB} {K : AV → List AB → Prop} (hn : args.length ≤ 9) (hw : wpC Try.prog σ.length 9 c_impl_JobsLegal_1 (retP σ.length [.t 3] K) ⟨initT 0 args, σ⟩) : CallWp Try.prog n_impl_JobsLegal_1 args σ K := call_fn mixed Try.func83 k_impl_JobsLegal_1 hn hw
def l0_impl_spaced : LC := .seq (.ops [⟨some 17, none, .bin .lss (.t 16) (.t 15)⟩])
    (.seq (.cond (.t 17) (.skip)
    (.exit 0))
    (.seq (.block 1 (.seq (.ops [⟨some 18, none, .ia 4 (.t 14) (.t 16)⟩,
      ⟨some 19, none, .ldn 4 (.t 18)⟩,
      ⟨some 9, none, .alloc ty_impl_Job [.i .i64 0, .i .i64 0, .i .i64 0, .i .i64 0]⟩,
      ⟨none, none, .st 4 (.t 9) (.t 19)⟩])
    (.seq (.ops [⟨some 20, none, .mv (.t 1)⟩,
      ⟨some 21, none, .ldn 4 (.t 9)⟩,
      ⟨some 22, none, .call (.t 20) [.t 21]⟩,
      ⟨some 10, none, .mv (.t 22)⟩])
    (.seq (.seq (.ops [⟨some 24, none, .mv (.t 7)⟩,
      ⟨some 25, none, .fa 0 (.t 9)⟩,
      ⟨some 26, none, .ld (.t 25)⟩,
      ⟨some 27, none, .lk 3 3 (.t 24) (.t 26)⟩,
      ⟨some 23, none, .mv (.t 27)⟩,
      ⟨some 28, none, .ext 0 (.t 23)⟩,
      ⟨some 29, none, .ext 1 (.t 23)⟩,
      ⟨some 11, none, .mv (.t 28)⟩,
      ⟨some 12, none, .mv (.t 29)⟩])
    (.seq (.ops [⟨some 30, none, .mv (.t 12)⟩,
      ⟨some 31, none, .mv (.t 30)⟩,
      ⟨some 32, (some (31, true)), .mv (.t 10)⟩,
      ⟨some 33, (some (31, true)), .mv (.t 11)⟩,
      ⟨some 34, (some (31, true)), .bin .sub (.t 32) (.t 33)⟩,
      ⟨some 35, (some (31, true)), .mv (.t 2)⟩,
      ⟨some 36, (some (31, true)), .fa 0 (.t 9)⟩,
      ⟨some 37, (some (31, true)), .ld (.t 36)⟩,
      ⟨some 38, (some (31, true)), .call (.t 35) [.t 37]⟩,
      ⟨some 39, (some (31, true)), .bin .lss (.t 34) (.t 38)⟩,
      ⟨some 40, none, .pick (.t 31) (.t 39) (.k (.b false))⟩])
    (.cond (.t 40) (.seq (.ops [⟨some 6, none, .mv (.k (.b false))⟩])
    (.ret))
    (.skip))))
    (.ops [⟨some 41, none, .mv (.t 7)⟩,
      ⟨some 42, none, .fa 0 (.t 9)⟩,
      ⟨some 43, none, .ld (.t 42)⟩,
      ⟨some 44, none, .mv (.t 10)⟩,
      ⟨none, none, .mup 3 3 (.t 41) (.t 43) (.t 44)⟩])))))
    (.ops [⟨some 45, none, .bin .add (.t 16) (.k (.i .i64 1))⟩,
      ⟨some 16, none, .mv (.t 45)⟩])))
def c_impl_spaced : LC := .seq (.ops [⟨some 6, none, .mv (.k (.b false))⟩])
    (.seq (.ops [⟨some 13, none, .mkm 3 3⟩,
      ⟨some 7, none, .mv (.t 13)⟩])
    (.seq (.seq (.ops [⟨some 14, none, .mv (.t 0)⟩,
      ⟨some 15, none, .len (.t 14)⟩,
      ⟨some 16, none, .mv (.k (.i .i64 0))⟩])
    (.block 0 (.loop l0_impl_spaced)))
    (.seq (.ops [⟨some 6, none, .mv (.k (.b true))⟩])
    (.ret))))
theorem k_impl_spaced : chkF Try.prog Try.f84 46 c_impl_spaced [.t 6] = true := by kernel_rfl
theorem callC_impl_spaced {args : List AV} {σ : List AB} {K : AV → List AB → Prop} (hn : args.length ≤ 46) (hw : Closed σ → args.all (below1 σ.length) = true → wpC Try.prog σ.length 46 c_impl_spaced (retP σ.length [.t 6] K) ⟨initT 0 args, σ⟩) : CallWp Try.prog n_impl_spaced args σ K := call_fnC mixed Try.func84 k_impl_spaced hn hw
def c_impl_release : LC := .seq (.ops [⟨some 1, none, .box ty_impl_Job (.t 0)⟩,
      ⟨some 2, none, .mv (.k (.i .i64 0))⟩])
    (.seq (.ops [⟨some 3, none, .fa 1 (.t 1)⟩,
      ⟨some 4, none, .ld (.t 3)⟩,
      ⟨some 2, none, .mv (.t 4)⟩])
    (.ret))
theorem k_impl_release : chkF Try.prog Try.f85 5 c_impl_release [.t 2] = true := by kernel_rfl
theorem call_impl_release {args : List AV} {σ : List AB} {K : AV → List AB → Prop} (hn : args.length ≤ 5) (hw : wpC Try.prog σ.length 5 c_impl_release (retP σ.length [.t 2] K) ⟨initT 0 args, σ⟩) : CallWp Try.prog n_impl_release args σ K := call_fn mixed Try.func85 k_impl_release hn hw
def c_impl_JobsLegal_2 : LC := .seq (.ops [⟨some 3, none, .mv (.k (.i .i64 0))⟩])
    (.seq (.ops [⟨some 4, none, .ld (.t 1)⟩,
      ⟨some 5, none, .mv (.t 0)⟩,
      ⟨some 6, none, .ia 3 (.t 4) (.t 5)⟩,
      ⟨some 7, none, .fa 2 (.t 6)⟩,
      ⟨some 8, none, .ld (.t 7)⟩,
      ⟨some 3, none, .mv (.t 8)⟩])
    (.ret))
theorem k_impl_JobsLegal_2 : chkF Try.prog Try.f86 9 c_impl_JobsLegal_2 [.t 3] = true := by kernel_rfl
theorem call_impl_JobsLegal_2 {args : List AV} {σ : List AB} {K : AV → List AB → Prop} (hn : args.length ≤ 9) (hw : wpC Try.prog σ.length 9 c_impl_JobsLegal_2 (retP σ.length [.t 3] K) ⟨initT 0 args, σ⟩) : CallWp Try.prog n_impl_JobsLegal_2 args σ K := call_fn mixed Try.func86 k_impl_JobsLegal_2 hn hw
def c_slices_ContainsFunc_impl_Job : LC := .seq (.ops [⟨some 4, none, .mv (.k (.b false))⟩])
    (.seq (.ops [⟨some 5, none, .mv (.t 0)⟩,
      ⟨some 6, none, .mv (.t 1)⟩,
      ⟨some 7, none, .call (.k (.fn n_slices_IndexFunc_impl_Job [] [])) [.t 5, .t 6]⟩,
      ⟨some 8, none, .bin .geq (.t 7) (.k (.i .i64 0))⟩,
      ⟨some 4, none, .mv (.t 8)⟩])
    (.ret))
theorem k_slices_ContainsFunc_impl_Job : chkF Try.prog Try.f87 9 c_slices_ContainsFunc_impl_Job [.t 4] = true := by kernel_rfl
theorem call_slices_ContainsFunc_impl_Job {args : List AV} {σ : List AB} {K : AV → List AB → Prop} (hn : args.length ≤ 9) (hw : wpC Try.prog σ.length 9 c_slices_ContainsFunc_impl_Job (retP σ.length [.t 4] K) ⟨initT 0 args, σ⟩) : CallWp Try.prog n_slices_ContainsFunc_impl_Job args σ K := call_fn mixed Try.func87 k_slices_ContainsFunc_impl_Job hn hw
def c_impl_JobsLegal_3 : LC := .seq (.ops [⟨some 2, none, .box ty_impl_Job (.t 0)⟩,
      ⟨some 3, none, .mv (.k (.b false))⟩])
    (.seq (.draw 12 [⟨some 4, none, .fa 2 (.t 2)⟩,
      ⟨some 5, none, .ld (.t 4)⟩,
      ⟨some 6, none, .fa 1 (.t 2)⟩,
      ⟨some 7, none, .ld (.t 6)⟩,
      ⟨some 8, none, .ld (.t 1)⟩,
      ⟨some 9, none, .fa 0 (.t 2)⟩,
      ⟨some 10, none, .ld (.t 9)⟩,
      ⟨some 11, none, .ia 3 (.t 8) (.t 10)⟩,
      ⟨some 12, none, .fa 1 (.t 11)⟩,
      ⟨some 13, none, .ld (.t 12)⟩,
      ⟨some 14, none, .bin .add (.t 7) (.t 13)⟩,
      ⟨some 15, none, .bin .neq (.t 5) (.t 14)⟩,
      ⟨some 3, none, .mv (.t 15)⟩])
    (.ret))
theorem k_impl_JobsLegal_3 : chkF Try.prog Try.f88 16 c_impl_JobsLegal_3 [.t 3] = true := by kernel_rfl
theorem callC_impl_JobsLegal_3 {args : List AV} {σ : List AB} {K : AV → List AB → Prop} (hn : args.length ≤ 16) (hw : Closed σ → args.all (below1 σ.length) = true → wpC Try.prog σ.length 16 c_impl_JobsLegal_3 (retP σ.length [.t 3] K) ⟨initT 0 args, σ⟩) : CallWp Try.prog n_impl_JobsLegal_3 args σ K := call_fnC mixed Try.func88 k_impl_JobsLegal_3 hn hw
def c_impl_newMachine : LC := .seq (.ops [⟨some 2, none, .mv (.k (.pn))⟩])
    (.seq (.ops [⟨some 3, none, .mv (.t 0)⟩,
      ⟨some 4, none, .mv (.t 0)⟩,
      ⟨some 5, none, .len (.t 4)⟩,
      ⟨some 6, none, .msl ty_int 8 [.i .i64 0] (.t 5)⟩,
      ⟨some 7, none, .build [.sn, .sn, .i .i64 0] [(0, 1, .t 3), (1, 1, .t 6)]⟩,
      ⟨some 8, none, .box ty_impl_machine (.t 7)⟩,
      ⟨some 2, none, .mv (.t 8)⟩])
    (.ret))
theorem k_impl_newMachine : chkF Try.prog Try.f89 9 c_impl_newMachine [.t 2] = true := by kernel_rfl
theorem call_impl_newMachine {args : List AV} {σ : List AB} {K : AV → List AB → Prop} (hn : args.length ≤ 9) (hw : wpC Try.prog σ.length 9 c_impl_newMachine (retP σ.length [.t 2] K) ⟨initT 0 args, σ⟩) : CallWp Try.prog n_impl_newMachine args σ K := call_fn mixed Try.func89 k_impl_newMachine hn hw
def c_impl_machine_any : LC := .seq (.ops [⟨some 4, none, .mv (.k (.b false))⟩])
    (.seq (.ops [⟨some 4, none, .mv (.k (.b true))⟩])
    (.ret))
theorem k_impl_machine_any : chkF Try.prog Try.f90 5 c_impl_machine_any [.t 4] = true := by kernel_rfl
theorem call_impl_machine_any {args : List AV} {σ : List AB} {K : AV → List AB → Prop} (hn : args.length ≤ 5) (hw : wpC Try.prog σ.length 5 c_impl_machine_any (retP σ.length [.t 4] K) ⟨initT 0 args, σ⟩) : CallWp Try.prog n_impl_machine_any args σ K := call_fn mixed Try.func90 k_impl_machine_any hn hw
def c_slices_ContainsFunc_impl_Task : LC := .seq (.ops [⟨some 4, none, .mv (.k (.b false))⟩])
    (.seq (.ops [⟨some 5, none, .mv (.t 0)⟩,
      ⟨some 6, none, .mv (.t 1)⟩,
      ⟨some 7, none, .call (.k (.fn n_slices_IndexFunc_impl_Task [] [])) [.t 5, .t 6]⟩,
      ⟨some 8, none, .bin .geq (.t 7) (.k (.i .i64 0))⟩,
      ⟨some 4, none, .mv (.t 8)⟩])
    (.ret))
theorem k_slices_ContainsFunc_impl_Task : chkF Try.prog Try.f96 9 c_slices_ContainsFunc_impl_Task [.t 4] = true := by kernel_rfl
theorem call_slices_ContainsFunc_impl_Task {args : List AV} {σ : List AB} {K : AV → List AB → Prop} (hn : args.length ≤ 9) (hw : wpC Try.prog σ.length 9 c_slices_ContainsFunc_impl_Task (retP σ.length [.t 4] K) ⟨initT 0 args, σ⟩) : CallWp Try.prog n_slices_ContainsFunc_impl_Task args σ K := call_fn mixed Try.func96 k_slices_ContainsFunc_impl_Task hn hw
def c_impl_SetValid_1 : LC := .seq (.ops [⟨some 1, none, .box ty_impl_Task (.t 0)⟩,
      ⟨some 2, none, .mv (.k (.b false))⟩])
    (.seq (.ops [⟨some 3, none, .ldn 3 (.t 1)⟩,
      ⟨some 4, none, .call (.k (.fn n_impl_TaskValid [] [])) [.t 3]⟩,
      ⟨some 5, none, .not (.t 4)⟩,
      ⟨some 2, none, .mv (.t 5)⟩])
    (.ret))
theorem k_impl_SetValid_1 : chkF Try.prog Try.f97 6 c_impl_SetValid_1 [.t 2] = true := by kernel_rfl
theorem call_impl_SetValid_1 {args : List AV} {σ : List AB} {K : AV → List AB → Prop} (hn : args.length ≤ 6) (hw : wpC Try.prog σ.length 6 c_impl_SetValid_1 (retP σ.length [.t 2] K) ⟨initT 0 args, σ⟩) : CallWp Try.prog n_impl_SetValid_1 args σ K := call_fn mixed Try.func97 k_impl_SetValid_1 hn hw
def c_slices_ContainsFunc_impl_Server : LC := .seq (.ops [⟨some 4, none, .mv (.k (.b false))⟩])
    (.seq (.ops [⟨some 5, none, .mv (.t 0)⟩,
      ⟨some 6, none, .mv (.t 1)⟩,
      ⟨some 7, none, .call (.k (.fn n_slices_IndexFunc_impl_Server [] [])) [.t 5, .t 6]⟩,
      ⟨some 8, none, .bin .geq (.t 7) (.k (.i .i64 0))⟩,
      ⟨some 4, none, .mv (.t 8)⟩])
    (.ret))
theorem k_slices_ContainsFunc_impl_Server : chkF Try.prog Try.f99 9 c_slices_ContainsFunc_impl_Server [.t 4] = true := by kernel_rfl
theorem call_slices_ContainsFunc_impl_Server {args : List AV} {σ : List AB} {K : AV → List AB → Prop} (hn : args.length ≤ 9) (hw : wpC Try.prog σ.length 9 c_slices_ContainsFunc_impl_Server (retP σ.length [.t 4] K) ⟨initT 0 args, σ⟩) : CallWp Try.prog n_slices_ContainsFunc_impl_Server args σ K := call_fn mixed Try.func99 k_slices_ContainsFunc_impl_Server hn hw
def c_impl_ServersValid_1 : LC := .seq (.ops [⟨some 1, none, .box ty_impl_Server (.t 0)⟩,
      ⟨some 2, none, .mv (.k (.b false))⟩])
    (.seq (.ops [⟨some 3, none, .fa 0 (.t 1)⟩,
      ⟨some 4, none, .ld (.t 3)⟩,
      ⟨some 5, none, .fa 1 (.t 1)⟩,
      ⟨some 6, none, .ld (.t 5)⟩,
      ⟨some 7, none, .call (.k (.fn n_impl_in [] [])) [.t 4, .k (.i .i64 1), .t 6]⟩,
      ⟨some 8, none, .not (.t 7)⟩,
      ⟨some 9, none, .mv (.t 8)⟩,
      ⟨some 10, (some (9, false)), .fa 1 (.t 1)⟩,
      ⟨some 11, (some (9, false)), .ld (.t 10)⟩,
      ⟨some 12, (some (9, false)), .bin .gtr (.t 11) (.k (.i .i64 12))⟩,
      ⟨some 13, none, .pick (.t 9) (.k (.b true)) (.t 12)⟩,
      ⟨some 2, none, .mv (.t 13)⟩])
    (.ret))
theorem k_impl_ServersValid_1 : chkF Try.prog Try.f100 14 c_impl_ServersValid_1 [.t 2] = true := by kernel_rfl
theorem call_impl_ServersValid_1 {args : List AV} {σ : List AB} {K : AV → List AB → Prop} (hn : args.length ≤ 14) (hw : wpC Try.prog σ.length 14 c_impl_ServersValid_1 (retP σ.length [.t 2] K) ⟨initT 0 args, σ⟩) : CallWp Try.prog n_impl_ServersValid_1 args σ K := call_fn mixed Try.func100 k_impl_ServersValid_1 hn hw
def l0_slices_IndexFunc_impl_Arrival_impl_Arrival : LC := .seq (.ops [⟨some 9, none, .bin .lss (.t 8) (.t 7)⟩])
    (.seq (.cond (.t 9) (.skip)
    (.exit 0))
    (.seq (.block 1 (.seq (.ops [⟨some 10, none, .mv (.t 8)⟩,
      ⟨some 5, none, .mv (.t 10)⟩])
    (.seq (.ops [⟨some 11, none, .mv (.t 1)⟩,
      ⟨some 12, none, .mv (.t 0)⟩,
      ⟨some 13, none, .mv (.t 5)⟩,
      ⟨some 14, none, .ia 1 (.t 12) (.t 13)⟩,
      ⟨some 15, none, .ld (.t 14)⟩,
      ⟨some 16, none, .call (.t 11) [.t 15]⟩])
    (.cond (.t 16) (.seq (.ops [⟨some 17, none, .mv (.t 5)⟩,
      ⟨some 4, none, .mv (.t 17)⟩])
    (.ret))
    (.skip)))))
    (.ops [⟨some 18, none, .bin .add (.t 8) (.k (.i .i64 1))⟩,
      ⟨some 8, none, .mv (.t 18)⟩])))
def c_slices_IndexFunc_impl_Arrival_impl_Arrival : LC := .seq (.ops [⟨some 4, none, .mv (.k (.i .i64 0))⟩])
    (.seq (.seq (.ops [⟨some 6, none, .mv (.t 0)⟩,
      ⟨some 7, none, .len (.t 6)⟩,
      ⟨some 8, none, .mv (.k (.i .i64 0))⟩])
    (.block 0 (.loop l0_slices_IndexFunc_impl_Arrival_impl_Arrival)))
    (.seq (.ops [⟨some 4, none, .mv (.k (.i .i64 (-1)))⟩])
    (.ret)))
theorem k_slices_IndexFunc_impl_Arrival_impl_Arrival : chkF Try.prog Try.f101 19 c_slices_IndexFunc_impl_Arrival_impl_Arrival [.t 4] = true := by kernel_rfl
theorem call_slices_IndexFunc_impl_Arrival_impl_Arrival {args : List AV} {σ : List AB} {K : AV → List AB → Prop} (hn : args.length ≤ 19) (hw : wpC Try.prog σ.length 19 c_slices_IndexFunc_impl_Arrival_impl_Arrival (retP σ.length [.t 4] K) ⟨initT 0 args, σ⟩) : CallWp Try.prog n_slices_IndexFunc_impl_Arrival_impl_Arrival args σ K := call_fn mixed Try.func101 k_slices_IndexFunc_impl_Arrival_impl_Arrival hn hw
def l0_slices_Repeat_int : LC := .seq (.seq (.ops [⟨some 34, none, .mv (.t 8)⟩,
      ⟨some 35, none, .mv (.t 7)⟩,
      ⟨some 36, none, .len (.t 35)⟩,
      ⟨some 37, none, .bin .lss (.t 34) (.t 36)⟩])
    (.cond (.t 37) (.skip)
    (.exit 0)))
    (.block 1 (.plan [0, 1, 2, 3, 4, 5, 6] [⟨some 38, none, .mv (.t 8)⟩,
      ⟨some 39, none, .mv (.t 7)⟩,
      ⟨some 40, none, .mv (.t 8)⟩,
      ⟨some 41, none, .slc 1 (.t 39) (some (.t 40)) none none⟩,
      ⟨some 42, none, .mv (.t 7)⟩,
      ⟨some 43, none, .mv (.t 8)⟩,
      ⟨some 44, none, .slc 1 (.t 42) none (some (.t 43)) none⟩]
      (.one 7 ⟨some 45, none, .copy (.t 41) (.t 44)⟩ [] [8]
        [⟨some 46, none, .bin .add (.t 38) (.t 45)⟩]
      (.one 9 ⟨some 8, none, .mv (.t 46)⟩ [] []
        []
      .fin))))
def c_slices_Repeat_int : LC := .seq (.ops [⟨some 4, none, .mv (.k (.sn))⟩])
    (.seq (.seq (.ops [⟨some 9, none, .mv (.t 1)⟩,
      ⟨some 10, none, .bin .lss (.t 9) (.k (.i .i64 0))⟩])
    (.cond (.t 10) (.ops [⟨some 11, none, .die⟩,
      ⟨none, none, .die⟩])
    (.skip)))
    (.seq (.ops [⟨some 13, none, .mv (.t 0)⟩,
      ⟨some 14, none, .len (.t 13)⟩,
      ⟨some 15, none, .conv .u64 (.t 14)⟩,
      ⟨some 16, none, .mv (.t 1)⟩,
      ⟨some 17, none, .conv .u64 (.t 16)⟩,
      ⟨some 18, none, .call (.k (.fn n_math_bits_Mul [] [])) [.t 15, .t 17]⟩,
      ⟨some 12, none, .mv (.t 18)⟩,
      ⟨some 19, none, .ext 0 (.t 12)⟩,
      ⟨some 20, none, .ext 1 (.t 12)⟩,
      ⟨some 5, none, .mv (.t 19)⟩,
      ⟨some 6, none, .mv (.t 20)⟩])
    (.seq (.seq (.ops [⟨some 21, none, .mv (.t 5)⟩,
      ⟨some 22, none, .bin .gtr (.t 21) (.k (.i .u64 0))⟩,
      ⟨some 23, none, .mv (.t 22)⟩,
      ⟨some 24, (some (23, false)), .mv (.t 6)⟩,
      ⟨some 25, (some (23, false)), .bin .gtr (.t 24) (.k (.i .u64 9223372036854775807))⟩,
      ⟨some 26, none, .pick (.t 23) (.k (.b true)) (.t 25)⟩])
    (.cond (.t 26) (.ops [⟨some 27, none, .die⟩,
      ⟨none, none, .die⟩])
    (.skip)))
    (.seq (.ops [⟨some 28, none, .mv (.t 6)⟩,
      ⟨some 29, none, .conv .i64 (.t 28)⟩,
      ⟨some 30, none, .msl ty_int 8 [.i .i64 0] (.t 29)⟩,
      ⟨some 7, none, .mv (.t 30)⟩])
    (.seq (.ops [⟨some 31, none, .mv (.t 7)⟩,
      ⟨some 32, none, .mv (.t 0)⟩,
      ⟨some 33, none, .copy (.t 31) (.t 32)⟩,
      ⟨some 8, none, .mv (.t 33)⟩])
    (.seq (.block 0 (.loop l0_slices_Repeat_int))
    (.seq (.ops [⟨some 47, none, .mv (.t 7)⟩,
      ⟨some 4, none, .mv (.t 47)⟩])
    (.ret))))))))
theorem k_slices_Repeat_int : chkF Try.prog Try.f102 48 c_slices_Repeat_int [.t 4] = true := by kernel_rfl
theorem call_slices_Repeat_int {args : List AV} {σ : List AB} {K : AV → List AB → Prop} (hn : args.length ≤ 48) (hw : wpC Try.prog σ.length 48 c_slices_Repeat_int (retP σ.length [.t 4] K) ⟨initT 0 args, σ⟩) : CallWp Try.prog n_slices_Repeat_int args σ K := call_fn mixed Try.func102 k_slices_Repeat_int hn hw
def l0_spec_l3Deadlines : LC := .seq (.seq (.ops [⟨some 6, none, .mv (.t 4)⟩,
      ⟨some 7, none, .mv (.t 0)⟩,
      ⟨some 8, none, .len (.t 7)⟩,
      ⟨some 9, none, .bin .lss (.t 6) (.t 8)⟩])
    (.cond (.t 9) (.skip)
    (.exit 0)))
    (.seq (.block 1 (.ops [⟨some 12, none, .mv (.t 3)⟩,
      ⟨some 13, none, .mv (.t 0)⟩,
      ⟨some 14, none, .mv (.t 4)⟩,
      ⟨some 15, none, .ia 4 (.t 13) (.t 14)⟩,
      ⟨some 16, none, .fa 2 (.t 15)⟩,
      ⟨some 17, none, .ld (.t 16)⟩,
      ⟨some 18, none, .bsl ty_int [.i .i64 0] 1 [(0, 1, .t 17)]⟩,
      ⟨some 19, none, .app ty_int 1 8 (.t 12) (.t 18)⟩,
      ⟨some 3, none, .mv (.t 19)⟩]))
    (.ops [⟨some 10, none, .mv (.t 4)⟩,
      ⟨some 11, none, .bin .add (.t 10) (.k (.i .i64 1))⟩,
      ⟨some 4, none, .mv (.t 11)⟩]))
def c_spec_l3Deadlines : LC := .seq (.ops [⟨some 2, none, .mv (.k (.sn))⟩])
    (.seq (.ops [⟨some 5, none, .bsl ty_int [.i .i64 0] 0 []⟩,
      ⟨some 3, none, .mv (.t 5)⟩])
    (.seq (.seq (.ops [⟨some 4, none, .mv (.k (.i .i64 0))⟩])
    (.block 0 (.loop l0_spec_l3Deadlines)))
    (.seq (.ops [⟨some 20, none, .mv (.t 3)⟩,
      ⟨some 2, none, .mv (.t 20)⟩])
    (.ret))))
theorem k_spec_l3Deadlines : chkF Try.prog Try.f103 21 c_spec_l3Deadlines [.t 2] = true := by kernel_rfl
theorem call_spec_l3Deadlines {args : List AV} {σ : List AB} {K : AV → List AB → Prop} (hn : args.length ≤ 21) (hw : wpC Try.prog σ.length 21 c_spec_l3Deadlines (retP σ.length [.t 2] K) ⟨initT 0 args, σ⟩) : CallWp Try.prog n_spec_l3Deadlines args σ K := call_fn mixed Try.func103 k_spec_l3Deadlines hn hw
def l0_spec_l5Arrive : LC := .seq (.seq (.ops [⟨some 9, none, .fa 2 (.t 4)⟩,
      ⟨some 10, none, .ld (.t 9)⟩,
      ⟨some 11, none, .mv (.t 2)⟩,
      ⟨some 12, none, .len (.t 11)⟩,
      ⟨some 13, none, .bin .lss (.t 10) (.t 12)⟩,
      ⟨some 14, none, .mv (.t 13)⟩,
      ⟨some 15, (some (14, true)), .mv (.t 2)⟩,
      ⟨some 16, (some (14, true)), .fa 2 (.t 4)⟩,
      ⟨some 17, (some (14, true)), .ld (.t 16)⟩,
      ⟨some 18, (some (14, true)), .ia 2 (.t 15) (.t 17)⟩,
      ⟨some 19, (some (14, true)), .fa 0 (.t 18)⟩,
      ⟨some 20, (some (14, true)), .ld (.t 19)⟩,
      ⟨some 21, (some (14, true)), .mv (.t 3)⟩,
      ⟨some 22, (some (14, true)), .bin .eql (.t 20) (.t 21)⟩,
      ⟨some 23, none, .pick (.t 14) (.t 22) (.k (.b false))⟩])
    (.cond (.t 23) (.skip)
    (.exit 0)))
    (.block 1 (.seq (.seq (.ops [⟨some 24, none, .fa 3 (.t 4)⟩,
      ⟨some 25, none, .ld (.t 24)⟩,
      ⟨some 26, none, .fa 2 (.t 4)⟩,
      ⟨some 27, none, .ld (.t 26)⟩,
      ⟨some 28, none, .bin .eql (.t 25) (.t 27)⟩])
    (.cond (.t 28) (.seq (.seq (.ops [⟨some 29, none, .fa 0 (.t 4)⟩,
      ⟨some 30, none, .ld (.t 29)⟩,
      ⟨some 31, none, .fa 1 (.t 5)⟩,
      ⟨some 32, none, .ld (.t 31)⟩,
      ⟨some 33, none, .bin .mul (.t 30) (.t 32)⟩,
      ⟨some 34, none, .fa 1 (.t 4)⟩,
      ⟨some 35, none, .ld (.t 34)⟩,
      ⟨some 36, none, .mv (.t 3)⟩,
      ⟨some 37, none, .bin .sub (.t 35) (.t 36)⟩,
      ⟨some 38, none, .fa 0 (.t 5)⟩,
      ⟨some 39, none, .ld (.t 38)⟩,
      ⟨some 40, none, .bin .mul (.t 37) (.t 39)⟩,
      ⟨some 41, none, .bin .geq (.t 33) (.t 40)⟩])
    (.cond (.t 41) (.seq (.ops [⟨some 42, none, .mv (.t 3)⟩,
      ⟨some 43, none, .fa 1 (.t 5)⟩,
      ⟨some 44, none, .ld (.t 43)⟩,
      ⟨some 45, none, .bin .add (.t 42) (.t 44)⟩,
      ⟨some 46, none, .fa 1 (.t 4)⟩,
      ⟨none, none, .st 1 (.t 46) (.t 45)⟩])
    (.ops [⟨some 47, none, .fa 0 (.t 5)⟩,
      ⟨some 48, none, .ld (.t 47)⟩,
      ⟨some 49, none, .fa 0 (.t 4)⟩,
      ⟨none, none, .st 1 (.t 49) (.t 48)⟩]))
    (.skip)))
    (.ops [⟨some 50, none, .mv (.t 2)⟩,
      ⟨some 51, none, .fa 2 (.t 4)⟩,
      ⟨some 52, none, .ld (.t 51)⟩,
      ⟨some 53, none, .ia 2 (.t 50) (.t 52)⟩,
      ⟨some 54, none, .fa 1 (.t 53)⟩,
      ⟨some 55, none, .ld (.t 54)⟩,
      ⟨some 56, none, .fa 4 (.t 4)⟩,
      ⟨none, none, .st 1 (.t 56) (.t 55)⟩]))
    (.skip)))
    (.ops [⟨some 57, none, .fa 2 (.t 4)⟩,
      ⟨some 58, none, .ld (.t 57)⟩,
      ⟨some 59, none, .bin .add (.t 58) (.k (.i .i64 1))⟩,
      ⟨some 60, none, .fa 2 (.t 4)⟩,
      ⟨none, none, .st 1 (.t 60) (.t 59)⟩])))
def c_spec_l5Arrive : LC := .seq (.ops [⟨some 4, none, .box ty_spec_l5State (.t 0)⟩,
      ⟨some 5, none, .box ty_impl_Server (.t 1)⟩,
      ⟨some 8, none, .alloc ty_spec_l5State [.i .i64 0, .i .i64 0, .i .i64 0, .i .i64 0, .i .i64 0]⟩])
    (.seq (.block 0 (.loop l0_spec_l5Arrive))
    (.seq (.ops [⟨some 61, none, .ldn 5 (.t 4)⟩,
      ⟨none, none, .st 5 (.t 8) (.t 61)⟩])
    (.ret)))
theorem k_spec_l5Arrive : chkF Try.prog Try.f104 62 c_spec_l5Arrive [.c 8 (some 5)] = true := by kernel_rfl
theorem call_spec_l5Arrive {args : List AV} {σ : List AB} {K : AV → List AB → Prop} (hn : args.length ≤ 62) (hw : wpC Try.prog σ.length 62 c_spec_l5Arrive (retP σ.length [.c 8 (some 5)] K) ⟨initT 0 args, σ⟩) : CallWp Try.prog n_spec_l5Arrive args σ K := call_fn mixed Try.func104 k_spec_l5Arrive hn hw
def l0_spec_l3Best : LC := .seq (.seq (.ops [⟨some 11, none, .mv (.t 10)⟩,
      ⟨some 12, none, .mv (.t 0)⟩,
      ⟨some 13, none, .len (.t 12)⟩,
      ⟨some 14, none, .bin .lss (.t 11) (.t 13)⟩])
    (.cond (.t 14) (.skip)
    (.exit 0)))
    (.seq (.block 1 (.seq (.draw 29 [⟨some 17, none, .mv (.t 0)⟩,
      ⟨some 18, none, .mv (.t 10)⟩,
      ⟨some 19, none, .ia 4 (.t 17) (.t 18)⟩,
      ⟨some 20, none, .fa 1 (.t 19)⟩,
      ⟨some 21, none, .ld (.t 20)⟩,
      ⟨some 22, none, .mv (.t 3)⟩,
      ⟨some 23, none, .bin .leq (.t 21) (.t 22)⟩,
      ⟨some 24, none, .mv (.t 23)⟩,
      ⟨some 25, (some (24, true)), .mv (.t 1)⟩,
      ⟨some 26, (some (24, true)), .mv (.t 10)⟩,
      ⟨some 27, (some (24, true)), .ia 1 (.t 25) (.t 26)⟩,
      ⟨some 28, (some (24, true)), .ld (.t 27)⟩,
      ⟨some 29, (some (24, true)), .bin .gtr (.t 28) (.k (.i .i64 0))⟩,
      ⟨some 30, none, .pick (.t 24) (.t 29) (.k (.b false))⟩,
      ⟨some 31, none, .mv (.t 30)⟩,
      ⟨some 32, (some (31, true)), .mv (.t 9)⟩,
      ⟨some 33, (some (31, true)), .bin .lss (.t 32) (.k (.i .i64 0))⟩,
      ⟨some 34, (some (31, true)), .mv (.t 33)⟩,
      ⟨some 35, (some (34, false)), .mv (.t 2)⟩,
      ⟨some 36, (some (34, false)), .mv (.t 10)⟩,
      ⟨some 37, (some (34, false)), .ia 1 (.t 35) (.t 36)⟩,
      ⟨some 38, (some (34, false)), .ld (.t 37)⟩,
      ⟨some 39, (some (34, false)), .mv (.t 2)⟩,
      ⟨some 40, (some (34, false)), .mv (.t 9)⟩,
      ⟨some 41, (some (34, false)), .ia 1 (.t 39) (.t 40)⟩,
      ⟨some 42, (some (34, false)), .ld (.t 41)⟩,
      ⟨some 43, (some (34, false)), .bin .lss (.t 38) (.t 42)⟩,
      ⟨some 44, (some (31, true)), .pick (.t 34) (.k (.b true)) (.t 43)⟩,
      ⟨some 45, none, .pick (.t 31) (.t 44) (.k (.b false))⟩])
    (.cond (.t 45) (.ops [⟨some 46, none, .mv (.t 10)⟩,
      ⟨some 9, none, .mv (.t 46)⟩])
    (.skip))))
    (.ops [⟨some 15, none, .mv (.t 10)⟩,
      ⟨some 16, none, .bin .add (.t 15) (.k (.i .i64 1))⟩,
      ⟨some 10, none, .mv (.t 16)⟩]))
def c_spec_l3Best : LC := .seq (.ops [⟨some 8, none, .mv (.k (.i .i64 0))⟩])
    (.seq (.ops [⟨some 9, none, .mv (.k (.i .i64 (-1)))⟩])
    (.seq (.seq (.ops [⟨some 10, none, .mv (.k (.i .i64 0))⟩])
    (.block 0 (.loop l0_spec_l3Best)))
    (.seq (.ops [⟨some 47, none, .mv (.t 9)⟩,
      ⟨some 8, none, .mv (.t 47)⟩])
    (.ret))))
theorem k_spec_l3Best : chkF Try.prog Try.f105 48 c_spec_l3Best [.t 8] = true := by kernel_rfl
theorem call_spec_l3Best {args : List AV} {σ : List AB} {K : AV → List AB → Prop} (hn : args.length ≤ 48) (hw : wpC Try.prog σ.length 48 c_spec_l3Best (retP σ.length [.t 8] K) ⟨initT 0 args, σ⟩) : CallWp Try.prog n_spec_l3Best args σ K := call_fn mixed Try.func105 k_spec_l3Best hn hw
def l0_spec_l5Pick : LC := .seq (.seq (.ops [⟨some 8, none, .mv (.t 6)⟩,
      ⟨some 9, none, .mv (.t 0)⟩,
      ⟨some 10, none, .len (.t 9)⟩,
      ⟨some 11, none, .bin .lss (.t 8) (.t 10)⟩])
    (.cond (.t 11) (.skip)
    (.exit 0)))
    (.seq (.block 1 (.seq (.ops [⟨some 14, none, .mv (.t 0)⟩,
      ⟨some 15, none, .mv (.t 6)⟩,
      ⟨some 16, none, .ia 5 (.t 14) (.t 15)⟩,
      ⟨some 17, none, .ldn 5 (.t 16)⟩,
      ⟨some 7, none, .alloc ty_spec_l5State [.i .i64 0, .i .i64 0, .i .i64 0, .i .i64 0, .i .i64 0]⟩,
      ⟨none, none, .st 5 (.t 7) (.t 17)⟩])
    (.seq (.draw 25 [⟨some 18, none, .fa 3 (.t 7)⟩,
      ⟨some 19, none, .ld (.t 18)⟩,
      ⟨some 20, none, .fa 2 (.t 7)⟩,
      ⟨some 21, none, .ld (.t 20)⟩,
      ⟨some 22, none, .bin .lss (.t 19) (.t 21)⟩,
      ⟨some 23, none, .mv (.t 22)⟩,
      ⟨some 24, (some (23, true)), .fa 1 (.t 7)⟩,
      ⟨some 25, (some (23, true)), .ld (.t 24)⟩,
      ⟨some 26, (some (23, true)), .mv (.t 1)⟩,
      ⟨some 27, (some (23, true)), .bin .lss (.t 25) (.t 26)⟩,
      ⟨some 28, none, .pick (.t 23) (.t 27) (.k (.b false))⟩,
      ⟨some 29, none, .mv (.t 28)⟩,
      ⟨some 30, (some (29, true)), .mv (.t 5)⟩,
      ⟨some 31, (some (29, true)), .bin .lss (.t 30) (.k (.i .i64 0))⟩,
      ⟨some 32, (some (29, true)), .mv (.t 31)⟩,
      ⟨some 33, (some (32, false)), .fa 1 (.t 7)⟩,
      ⟨some 34, (some (32, false)), .ld (.t 33)⟩,
      ⟨some 35, (some (32, false)), .mv (.t 0)⟩,
      ⟨some 36, (some (32, false)), .mv (.t 5)⟩,
      ⟨some 37, (some (32, false)), .ia 5 (.t 35) (.t 36)⟩,
      ⟨some 38, (some (32, false)), .fa 1 (.t 37)⟩,
      ⟨some 39, (some (32, false)), .ld (.t 38)⟩,
      ⟨some 40, (some (32, false)), .bin .lss (.t 34) (.t 39)⟩,
      ⟨some 41, (some (29, true)), .pick (.t 32) (.k (.b true)) (.t 40)⟩,
      ⟨some 42, none, .pick (.t 29) (.t 41) (.k (.b false))⟩])
    (.cond (.t 42) (.ops [⟨some 43, none, .mv (.t 6)⟩,
      ⟨some 5, none, .mv (.t 43)⟩])
    (.skip)))))
    (.ops [⟨some 12, none, .mv (.t 6)⟩,
      ⟨some 13, none, .bin .add (.t 12) (.k (.i .i64 1))⟩,
      ⟨some 6, none, .mv (.t 13)⟩]))
def c_spec_l5Pick : LC := .seq (.ops [⟨some 4, none, .mv (.k (.i .i64 0))⟩])
    (.seq (.ops [⟨some 5, none, .mv (.k (.i .i64 (-1)))⟩])
    (.seq (.seq (.ops [⟨some 6, none, .mv (.k (.i .i64 0))⟩])
    (.block 0 (.loop l0_spec_l5Pick)))
    (.seq (.ops [⟨some 44, none, .mv (.t 5)⟩,
      ⟨some 4, none, .mv (.t 44)⟩])
    (.ret))))
theorem k_spec_l5Pick : chkF Try.prog Try.f106 45 c_spec_l5Pick [.t 4] = true := by kernel_rfl
theorem call_spec_l5Pick {args : List AV} {σ : List AB} {K : AV → List AB → Prop} (hn : args.length ≤ 45) (hw : wpC Try.prog σ.length 45 c_spec_l5Pick (retP σ.length [.t 4] K) ⟨initT 0 args, σ⟩) : CallWp Try.prog n_spec_l5Pick args σ K := call_fn mixed Try.func106 k_spec_l5Pick hn hw
def c_spec_l5Serve : LC := .seq (.ops [⟨some 3, none, .box ty_spec_l5State (.t 0)⟩,
      ⟨some 4, none, .box ty_impl_Server (.t 1)⟩,
      ⟨some 6, none, .alloc ty_spec_l5State [.i .i64 0, .i .i64 0, .i .i64 0, .i .i64 0, .i .i64 0]⟩])
    (.seq (.ops [⟨some 7, none, .fa 0 (.t 3)⟩,
      ⟨some 8, none, .ld (.t 7)⟩,
      ⟨some 9, none, .bin .sub (.t 8) (.k (.i .i64 1))⟩,
      ⟨some 10, none, .fa 0 (.t 3)⟩,
      ⟨none, none, .st 1 (.t 10) (.t 9)⟩])
    (.seq (.ops [⟨some 11, none, .fa 4 (.t 3)⟩,
      ⟨some 12, none, .ld (.t 11)⟩,
      ⟨some 13, none, .bin .sub (.t 12) (.k (.i .i64 1))⟩,
      ⟨some 14, none, .fa 4 (.t 3)⟩,
      ⟨none, none, .st 1 (.t 14) (.t 13)⟩])
    (.join (.seq (.ops [⟨some 15, none, .fa 4 (.t 3)⟩,
      ⟨some 16, none, .ld (.t 15)⟩,
      ⟨some 17, none, .bin .eql (.t 16) (.k (.i .i64 0))⟩])
    (.cond (.t 17) (.seq (.ops [⟨some 18, none, .fa 3 (.t 3)⟩,
      ⟨some 19, none, .ld (.t 18)⟩,
      ⟨some 20, none, .bin .add (.t 19) (.k (.i .i64 1))⟩,
      ⟨some 21, none, .fa 3 (.t 3)⟩,
      ⟨none, none, .st 1 (.t 21) (.t 20)⟩])
    (.seq (.ops [⟨some 22, none, .fa 3 (.t 3)⟩,
      ⟨some 23, none, .ld (.t 22)⟩,
      ⟨some 24, none, .fa 2 (.t 3)⟩,
      ⟨some 25, none, .ld (.t 24)⟩,
      ⟨some 26, none, .bin .lss (.t 23) (.t 25)⟩])
    (.cond (.t 26) (.ops [⟨some 27, none, .mv (.t 2)⟩,
      ⟨some 28, none, .fa 3 (.t 3)⟩,
      ⟨some 29, none, .ld (.t 28)⟩,
      ⟨some 30, none, .ia 2 (.t 27) (.t 29)⟩,
      ⟨some 31, none, .fa 1 (.t 30)⟩,
      ⟨some 32, none, .ld (.t 31)⟩,
      ⟨some 33, none, .fa 4 (.t 3)⟩,
      ⟨none, none, .st 1 (.t 33) (.t 32)⟩])
    (.skip))))
    (.skip)))
    (.join (.seq (.ops [⟨some 34, none, .fa 0 (.t 3)⟩,
      ⟨some 35, none, .ld (.t 34)⟩,
      ⟨some 36, none, .bin .eql (.t 35) (.k (.i .i64 0))⟩])
    (.cond (.t 36) (.seq (.ops [⟨some 37, none, .fa 0 (.t 4)⟩,
      ⟨some 38, none, .ld (.t 37)⟩,
      ⟨some 39, none, .fa 0 (.t 3)⟩,
      ⟨none, none, .st 1 (.t 39) (.t 38)⟩])
    (.ops [⟨some 40, none, .fa 1 (.t 3)⟩,
      ⟨some 41, none, .ld (.t 40)⟩,
      ⟨some 42, none, .fa 1 (.t 4)⟩,
      ⟨some 43, none, .ld (.t 42)⟩,
      ⟨some 44, none, .bin .add (.t 41) (.t 43)⟩,
      ⟨some 45, none, .fa 1 (.t 3)⟩,
      ⟨none, none, .st 1 (.t 45) (.t 44)⟩]))
    (.skip)))
    (.seq (.ops [⟨some 46, none, .ldn 5 (.t 3)⟩,
      ⟨none, none, .st 5 (.t 6) (.t 46)⟩])
    (.ret))))))
theorem k_spec_l5Serve : chkF Try.prog Try.f107 47 c_spec_l5Serve [.c 6 (some 5)] = true := by kernel_rfl
theorem call_spec_l5Serve {args : List AV} {σ : List AB} {K : AV → List AB → Prop} (hn : args.length ≤ 47) (hw : wpC Try.prog σ.length 47 c_spec_l5Serve (retP σ.length [.c 6 (some 5)] K) ⟨initT 0 args, σ⟩) : CallWp Try.prog n_spec_l5Serve args σ K := call_fn mixed Try.func107 k_spec_l5Serve hn hw
def l0_slices_IndexFunc_impl_Job : LC := .seq (.ops [⟨some 9, none, .bin .lss (.t 8) (.t 7)⟩])
    (.seq (.cond (.t 9) (.skip)
    (.exit 0))
    (.seq (.block 1 (.seq (.ops [⟨some 10, none, .mv (.t 8)⟩,
      ⟨some 5, none, .mv (.t 10)⟩])
    (.seq (.ops [⟨some 11, none, .mv (.t 1)⟩,
      ⟨some 12, none, .mv (.t 0)⟩,
      ⟨some 13, none, .mv (.t 5)⟩,
      ⟨some 14, none, .ia 4 (.t 12) (.t 13)⟩,
      ⟨some 15, none, .ldn 4 (.t 14)⟩,
      ⟨some 16, none, .call (.t 11) [.t 15]⟩])
    (.cond (.t 16) (.seq (.ops [⟨some 17, none, .mv (.t 5)⟩,
      ⟨some 4, none, .mv (.t 17)⟩])
    (.ret))
    (.skip)))))
    (.ops [⟨some 18, none, .bin .add (.t 8) (.k (.i .i64 1))⟩,
      ⟨some 8, none, .mv (.t 18)⟩])))
def c_slices_IndexFunc_impl_Job : LC := .seq (.ops [⟨some 4, none, .mv (.k (.i .i64 0))⟩])
    (.seq (.seq (.ops [⟨some 6, none, .mv (.t 0)⟩,
      ⟨some 7, none, .len (.t 6)⟩,
      ⟨some 8, none, .mv (.k (.i .i64 0))⟩])
    (.block 0 (.loop l0_slices_IndexFunc_impl_Job)))
    (.seq (.ops [⟨some 4, none, .mv (.k (.i .i64 (-1)))⟩])
    (.ret)))
theorem k_slices_IndexFunc_impl_Job : chkF Try.prog Try.f110 19 c_slices_IndexFunc_impl_Job [.t 4] = true := by kernel_rfl
theorem call_slices_IndexFunc_impl_Job {args : List AV} {σ : List AB} {K : AV → List AB → Prop} (hn : args.length ≤ 19) (hw : wpC Try.prog σ.length 19 c_slices_IndexFunc_impl_Job (retP σ.length [.t 4] K) ⟨initT 0 args, σ⟩) : CallWp Try.prog n_slices_IndexFunc_impl_Job args σ K := call_fn mixed Try.func110 k_slices_IndexFunc_impl_Job hn hw
def l0_slices_IndexFunc_impl_Task : LC := .seq (.ops [⟨some 9, none, .bin .lss (.t 8) (.t 7)⟩])
    (.seq (.cond (.t 9) (.skip)
    (.exit 0))
    (.seq (.block 1 (.seq (.ops [⟨some 10, none, .mv (.t 8)⟩,
      ⟨some 5, none, .mv (.t 10)⟩])
    (.seq (.ops [⟨some 11, none, .mv (.t 1)⟩,
      ⟨some 12, none, .mv (.t 0)⟩,
      ⟨some 13, none, .mv (.t 5)⟩,
      ⟨some 14, none, .ia 3 (.t 12) (.t 13)⟩,
      ⟨some 15, none, .ldn 3 (.t 14)⟩,
      ⟨some 16, none, .call (.t 11) [.t 15]⟩])
    (.cond (.t 16) (.seq (.ops [⟨some 17, none, .mv (.t 5)⟩,
      ⟨some 4, none, .mv (.t 17)⟩])
    (.ret))
    (.skip)))))
    (.ops [⟨some 18, none, .bin .add (.t 8) (.k (.i .i64 1))⟩,
      ⟨some 8, none, .mv (.t 18)⟩])))
def c_slices_IndexFunc_impl_Task : LC := .seq (.ops [⟨some 4, none, .mv (.k (.i .i64 0))⟩])
    (.seq (.seq (.ops [⟨some 6, none, .mv (.t 0)⟩,
      ⟨some 7, none, .len (.t 6)⟩,
      ⟨some 8, none, .mv (.k (.i .i64 0))⟩])
    (.block 0 (.loop l0_slices_IndexFunc_impl_Task)))
    (.seq (.ops [⟨some 4, none, .mv (.k (.i .i64 (-1)))⟩])
    (.ret)))
theorem k_slices_IndexFunc_impl_Task : chkF Try.prog Try.f111 19 c_slices_IndexFunc_impl_Task [.t 4] = true := by kernel_rfl
theorem call_slices_IndexFunc_impl_Task {args : List AV} {σ : List AB} {K : AV → List AB → Prop} (hn : args.length ≤ 19) (hw : wpC Try.prog σ.length 19 c_slices_IndexFunc_impl_Task (retP σ.length [.t 4] K) ⟨initT 0 args, σ⟩) : CallWp Try.prog n_slices_IndexFunc_impl_Task args σ K := call_fn mixed Try.func111 k_slices_IndexFunc_impl_Task hn hw
def l0_slices_IndexFunc_impl_Server : LC := .seq (.ops [⟨some 9, none, .bin .lss (.t 8) (.t 7)⟩])
    (.seq (.cond (.t 9) (.skip)
    (.exit 0))
    (.seq (.block 1 (.seq (.ops [⟨some 10, none, .mv (.t 8)⟩,
      ⟨some 5, none, .mv (.t 10)⟩])
    (.seq (.ops [⟨some 11, none, .mv (.t 1)⟩,
      ⟨some 12, none, .mv (.t 0)⟩,
      ⟨some 13, none, .mv (.t 5)⟩,
      ⟨some 14, none, .ia 2 (.t 12) (.t 13)⟩,
      ⟨some 15, none, .ldn 2 (.t 14)⟩,
      ⟨some 16, none, .call (.t 11) [.t 15]⟩])
    (.cond (.t 16) (.seq (.ops [⟨some 17, none, .mv (.t 5)⟩,
      ⟨some 4, none, .mv (.t 17)⟩])
    (.ret))
    (.skip)))))
    (.ops [⟨some 18, none, .bin .add (.t 8) (.k (.i .i64 1))⟩,
      ⟨some 8, none, .mv (.t 18)⟩])))
def c_slices_IndexFunc_impl_Server : LC := .seq (.ops [⟨some 4, none, .mv (.k (.i .i64 0))⟩])
    (.seq (.seq (.ops [⟨some 6, none, .mv (.t 0)⟩,
      ⟨some 7, none, .len (.t 6)⟩,
      ⟨some 8, none, .mv (.k (.i .i64 0))⟩])
    (.block 0 (.loop l0_slices_IndexFunc_impl_Server)))
    (.seq (.ops [⟨some 4, none, .mv (.k (.i .i64 (-1)))⟩])
    (.ret)))
theorem k_slices_IndexFunc_impl_Server : chkF Try.prog Try.f114 19 c_slices_IndexFunc_impl_Server [.t 4] = true := by kernel_rfl
theorem call_slices_IndexFunc_impl_Server {args : List AV} {σ : List AB} {K : AV → List AB → Prop} (hn : args.length ≤ 19) (hw : wpC Try.prog σ.length 19 c_slices_IndexFunc_impl_Server (retP σ.length [.t 4] K) ⟨initT 0 args, σ⟩) : CallWp Try.prog n_slices_IndexFunc_impl_Server args σ K := call_fn mixed Try.func114 k_slices_IndexFunc_impl_Server hn hw
def c_math_bits_Mul : LC := .seq (.ops [⟨some 4, none, .mv (.k (.i .u64 0))⟩,
      ⟨some 5, none, .mv (.k (.i .u64 0))⟩])
    (.seq (.cond (.k (.b false)) (.seq (.ops [⟨some 11, none, .mv (.t 0)⟩,
      ⟨some 12, none, .conv .u32 (.t 11)⟩,
      ⟨some 13, none, .mv (.t 1)⟩,
      ⟨some 14, none, .conv .u32 (.t 13)⟩,
      ⟨some 15, none, .call (.k (.fn n_math_bits_Mul32 [] [])) [.t 12, .t 14]⟩,
      ⟨some 10, none, .mv (.t 15)⟩,
      ⟨some 16, none, .ext 0 (.t 10)⟩,
      ⟨some 17, none, .ext 1 (.t 10)⟩,
      ⟨some 6, none, .mv (.t 16)⟩,
      ⟨some 7, none, .mv (.t 17)⟩])
    (.seq (.ops [⟨some 18, none, .mv (.t 6)⟩,
      ⟨some 19, none, .conv .u64 (.t 18)⟩,
      ⟨some 20, none, .mv (.t 7)⟩,
      ⟨some 21, none, .conv .u64 (.t 20)⟩,
      ⟨some 4, none, .mv (.t 19)⟩,
      ⟨some 5, none, .mv (.t 21)⟩])
    (.ret)))
    (.skip))
    (.seq (.ops [⟨some 23, none, .mv (.t 0)⟩,
      ⟨some 24, none, .mv (.t 1)⟩,
      ⟨some 25, none, .call (.k (.fn n_math_bits_Mul64 [] [])) [.t 23, .t 24]⟩,
      ⟨some 22, none, .mv (.t 25)⟩,
      ⟨some 26, none, .ext 0 (.t 22)⟩,
      ⟨some 27, none, .ext 1 (.t 22)⟩,
      ⟨some 8, none, .mv (.t 26)⟩,
      ⟨some 9, none, .mv (.t 27)⟩])
    (.seq (.ops [⟨some 28, none, .mv (.t 8)⟩,
      ⟨some 29, none, .mv (.t 9)⟩,
      ⟨some 4, none, .mv (.t 28)⟩,
      ⟨some 5, none, .mv (.t 29)⟩])
    (.ret))))
theorem k_math_bits_Mul : chkF Try.prog Try.f115 30 c_math_bits_Mul [.t 4, .t 5] = true := by kernel_rfl
theorem call_math_bits_Mul {args : List AV} {σ : List AB} {K : AV → List AB → Prop} (hn : args.length ≤ 30) (hw : wpC Try.prog σ.length 30 c_math_bits_Mul (retP σ.length [.t 4, .t 5] K) ⟨initT 0 args, σ⟩) : CallWp Try.prog n_math_bits_Mul args σ K := call_fn mixed Try.func115 k_math_bits_Mul hn hw
def c_math_bits_Mul64 : LC := .seq (.ops [⟨some 4, none, .mv (.k (.i .u64 0))⟩,
      ⟨some 5, none, .mv (.k (.i .u64 0))⟩])
    (.seq (.ops [⟨some 14, none, .mv (.t 0)⟩,
      ⟨some 15, none, .bin .and (.t 14) (.k (.i .u64 4294967295))⟩,
      ⟨some 6, none, .mv (.t 15)⟩])
    (.seq (.ops [⟨some 16, none, .mv (.t 0)⟩,
      ⟨some 17, none, .shr (.t 16) (.k (.i .u64 32))⟩,
      ⟨some 7, none, .mv (.t 17)⟩])
    (.seq (.ops [⟨some 18, none, .mv (.t 1)⟩,
      ⟨some 19, none, .bin .and (.t 18) (.k (.i .u64 4294967295))⟩,
      ⟨some 8, none, .mv (.t 19)⟩])
    (.seq (.ops [⟨some 20, none, .mv (.t 1)⟩,
      ⟨some 21, none, .shr (.t 20) (.k (.i .u64 32))⟩,
      ⟨some 9, none, .mv (.t 21)⟩])
    (.seq (.ops [⟨some 22, none, .mv (.t 6)⟩,
      ⟨some 23, none, .mv (.t 8)⟩,
      ⟨some 24, none, .bin .mul (.t 22) (.t 23)⟩,
      ⟨some 10, none, .mv (.t 24)⟩])
    (.seq (.ops [⟨some 25, none, .mv (.t 7)⟩,
      ⟨some 26, none, .mv (.t 8)⟩,
      ⟨some 27, none, .bin .mul (.t 25) (.t 26)⟩,
      ⟨some 28, none, .mv (.t 10)⟩,
      ⟨some 29, none, .shr (.t 28) (.k (.i .u64 32))⟩,
      ⟨some 30, none, .bin .add (.t 27) (.t 29)⟩,
      ⟨some 11, none, .mv (.t 30)⟩])
    (.seq (.ops [⟨some 31, none, .mv (.t 11)⟩,
      ⟨some 32, none, .bin .and (.t 31) (.k (.i .u64 4294967295))⟩,
      ⟨some 12, none, .mv (.t 32)⟩])
    (.seq (.ops [⟨some 33, none, .mv (.t 11)⟩,
      ⟨some 34, none, .shr (.t 33) (.k (.i .u64 32))⟩,
      ⟨some 13, none, .mv (.t 34)⟩])
    (.seq (.ops [⟨some 35, none, .mv (.t 12)⟩,
      ⟨some 36, none, .mv (.t 6)⟩,
      ⟨some 37, none, .mv (.t 9)⟩,
      ⟨some 38, none, .bin .mul (.t 36) (.t 37)⟩,
      ⟨some 39, none, .bin .add (.t 35) (.t 38)⟩,
      ⟨some 12, none, .mv (.t 39)⟩])
    (.seq (.ops [⟨some 40, none, .mv (.t 7)⟩,
      ⟨some 41, none, .mv (.t 9)⟩,
      ⟨some 42, none, .bin .mul (.t 40) (.t 41)⟩,
      ⟨some 43, none, .mv (.t 13)⟩,
      ⟨some 44, none, .bin .add (.t 42) (.t 43)⟩,
      ⟨some 45, none, .mv (.t 12)⟩,
      ⟨some 46, none, .shr (.t 45) (.k (.i .u64 32))⟩,
      ⟨some 47, none, .bin .add (.t 44) (.t 46)⟩,
      ⟨some 4, none, .mv (.t 47)⟩])
    (.seq (.ops [⟨some 48, none, .mv (.t 0)⟩,
      ⟨some 49, none, .mv (.t 1)⟩,
      ⟨some 50, none, .bin .mul (.t 48) (.t 49)⟩,
      ⟨some 5, none, .mv (.t 50)⟩])
    (.ret))))))))))))
theorem k_math_bits_Mul64 : chkF Try.prog Try.f119 51 c_math_bits_Mul64 [.t 4, .t 5] = true := by kernel_rfl
theorem call_math_bits_Mul64 {args : List AV} {σ : List AB} {K : AV → List AB → Prop} (hn : args.length ≤ 51) (hw : wpC Try.prog σ.length 51 c_math_bits_Mul64 (retP σ.length [.t 4, .t 5] K) ⟨initT 0 args, σ⟩) : CallWp Try.prog n_math_bits_Mul64 args σ K := call_fn mixed Try.func119 k_math_bits_Mul64 hn hw
end Go.Proofs.Ytnlciginmeebhaa
