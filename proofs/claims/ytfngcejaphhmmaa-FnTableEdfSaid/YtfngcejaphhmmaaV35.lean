import Derived.Test.YtfngcejaphhmmaaD9
import Derived.Test.YtfngcejaphhmmaaS55
import Derived.Test.YtfngcejaphhmmaaS56
import Derived.Test.YtfngcejaphhmmaaS21
import Derived.Test.YtfngcejaphhmmaaS4
import Derived.Test.YtfngcejaphhmmaaM39
namespace Go.Proofs.Ytfngcejaphhmmaa
open Go.Abs Go.Ds
set_option linter.unusedSimpArgs false
set_option linter.unusedVariables false
set_option maxRecDepth 20000
set_option maxHeartbeats 2000000
theorem laws_FnTableEdf0 (C : List Nat) (hC : ∀ x ∈ C, x < 256) (c : Nat) (hc : C.length ≤ c) : CallWp Try.prog n_laws_FnTableEdf [.sl 0 0 C.length c] [.ro (encByte.row C)] (fun x _ => x = .b true) := by
  refine call_laws_FnTableEdf (by simp) ?_
  simp only [c_laws_FnTableEdf, go_sem, Int.reduceToNat, List.take_nil, Nat.zero_mul, Nat.reduceEqDiff, Nat.reduceAdd, Nat.reduceLT, Nat.reduceLeDiff, Nat.reduceMul, ↓reduceIte, reduceCtorEq]
  refine ⟨fun h => Fin.plain rfl, fun h => ?_⟩
  refine (spec_DrawTable0 C hC c hc).mono ?_
  rintro x σ' _ ⟨S, cap, rfl, rfl, hS8⟩
  simp only [go_sem, Int.reduceToNat, List.take_nil, Nat.zero_mul, Nat.reduceEqDiff, Nat.reduceAdd, Nat.reduceLT, Nat.reduceLeDiff, Nat.reduceMul, ↓reduceIte, reduceCtorEq]
  refine impl_Table_ (S := S) (by omega) (Rd.own rfl) (fun hno => ?_) (fun hok c1 => ?_)
  · simp only [go_sem, Int.reduceToNat, List.take_nil, Nat.zero_mul, Nat.reduceEqDiff, Nat.reduceAdd, Nat.reduceLT, Nat.reduceLeDiff, Nat.reduceMul, ↓reduceIte, reduceCtorEq]
    refine spec_Table_ (S := S) (by omega) (Rd.own rfl) fun x τ hx => ?_
    rcases hx with ⟨_, r, rfl, rfl⟩ | ⟨h1, _⟩
    rotate_left
    · exact absurd h1 hno
    simp only [not_true_eq_false, not_false_eq_true, decide_true, decide_false, Bool.not_true, Bool.not_false, false_implies, true_implies, and_true, true_and, Bool.false_eq_true, Bool.true_eq_false, implies_true, Bool.not_not, Classical.not_not, go_sem, Int.reduceToNat, List.take_nil, Nat.zero_mul, Nat.reduceEqDiff, Nat.reduceAdd, Nat.reduceLT, Nat.reduceLeDiff, Nat.reduceMul, ↓reduceIte, reduceCtorEq]
    refine impl_Synchronous_ (S := S) (by omega) (Rd.own rfl) (fun _ => ?_) (fun _ _ cJ => ?_)
    all_goals
      simp only [not_true_eq_false, not_false_eq_true, decide_true, decide_false, Bool.not_true, Bool.not_false, false_implies, true_implies, and_true, true_and, Bool.false_eq_true, Bool.true_eq_false, implies_true, Bool.not_not, Classical.not_not, go_sem, Int.reduceToNat, List.take_nil, Nat.zero_mul, Nat.reduceEqDiff, Nat.reduceAdd, Nat.reduceLT, Nat.reduceLeDiff, Nat.reduceMul, ↓reduceIte, reduceCtorEq]
      refine laws_alive_ ?_
      simp only [not_true_eq_false, not_false_eq_true, decide_true, decide_false, Bool.not_true, Bool.not_false, false_implies, true_implies, and_true, true_and, Bool.false_eq_true, Bool.true_eq_false, implies_true, Bool.not_not, Classical.not_not, go_sem, Int.reduceToNat, List.take_nil, Nat.zero_mul, Nat.reduceEqDiff, Nat.reduceAdd, Nat.reduceLT, Nat.reduceLeDiff, Nat.reduceMul, ↓reduceIte, reduceCtorEq]
      exact Fin.plain rfl
  · simp only [go_sem, Int.reduceToNat, List.take_nil, Nat.zero_mul, Nat.reduceEqDiff, Nat.reduceAdd, Nat.reduceLT, Nat.reduceLeDiff, Nat.reduceMul, ↓reduceIte, reduceCtorEq]
    refine spec_Table_ (S := S) (by omega) (Rd.own rfl) fun x τ hx => ?_
    rcases hx with ⟨h1, _⟩ | ⟨_, c2, rfl, rfl⟩
    · exact absurd hok h1
    have hS := hok.1.1
    have hf := tab_feas hok
    have hH := hok.2
    have hleg : jobsLegal S (sync S 120 120) := sync_legal hS (Int.le_refl 120) 120
    have h60 := sync_60 S 120 120
    have hti := table_idle hS hf
    have hE : ∀ t : Nat, t < 120 → gI (edfRun (sync S 120 120)) t = edfPick (sync S 120 120) t (simU (sync S 120 120) (edfPick (sync S 120 120)) t).done := fun t ht => simU_at ht
    have hR : (edfRun (sync S 120 120)).length = 120 := (simU_lens 120).2.2
    have hb : ∀ t : Nat, -1 ≤ edfPick (sync S 120 120) t (simU (sync S 120 120) (edfPick (sync S 120 120)) t).done := fun t => (bestF_range _ _ _).1
    have hTl := tabL_len S (hyperN S)
    simp only [not_true_eq_false, not_false_eq_true, decide_true, decide_false, Bool.not_true, Bool.not_false, false_implies, true_implies, and_true, true_and, Bool.false_eq_true, Bool.true_eq_false, implies_true, Bool.not_not, Classical.not_not, go_sem, Int.reduceToNat, List.take_nil, Nat.zero_mul, Nat.reduceEqDiff, Nat.reduceAdd, Nat.reduceLT, Nat.reduceLeDiff, Nat.reduceMul, ↓reduceIte, reduceCtorEq]
    refine impl_Synchronous_ (S := S) (by omega) (Rd.own rfl) (fun h0 => ?_) (fun _ hne cJ => ?_)
    · have h0 : sync S 120 120 = [] := h0.resolve_left fun hh => hh ⟨hS, by omega, by omega⟩
      simp only [not_true_eq_false, not_false_eq_true, decide_true, decide_false, Bool.not_true, Bool.not_false, false_implies, true_implies, and_true, true_and, Bool.false_eq_true, Bool.true_eq_false, implies_true, Bool.not_not, Classical.not_not, go_sem, Int.reduceToNat, List.take_nil, Nat.zero_mul, Nat.reduceEqDiff, Nat.reduceAdd, Nat.reduceLT, Nat.reduceLeDiff, Nat.reduceMul, ↓reduceIte, reduceCtorEq]
      have hl0 : (sync S 120 120).length = 0 := by rw [h0]; rfl
      refine ⟨fun h => by omega, fun h => ?_⟩
      have hti := hti (by omega)
      refine impl_RunEdf_ (S := S) (L := sync S 120 120) (by omega) (by omega) (Rd.own rfl) (by rw [h0]; exact Rd.nul (by simp)) (fun hno => absurd hleg hno) (fun _ c3 c4 => ?_)
      simp only [not_true_eq_false, not_false_eq_true, decide_true, decide_false, Bool.not_true, Bool.not_false, false_implies, true_implies, and_true, true_and, Bool.false_eq_true, Bool.true_eq_false, implies_true, Bool.not_not, Classical.not_not, go_sem, Int.reduceToNat, List.take_nil, Nat.zero_mul, Nat.reduceEqDiff, Nat.reduceAdd, Nat.reduceLT, Nat.reduceLeDiff, Nat.reduceMul, ↓reduceIte, reduceCtorEq]
      refine loop_count 108 (fun k => ⟨[(4, .sl 2 0 (hyperN S) c1), (9, .p 6 0), (10, .i .i64 k)], [.ro (encByte.row C), .rw ty_impl_Task (encTask.row S) (cap * 3), .rw ty_int (encInt.row (tabL S (hyperN S))) c1, .rw ty_int (encInt.row (tabL S (hyperN S))) c2, .rw ty_int (encInt.row (edfRun (sync S 120 120))) c3, .rw ty_int (encInt.row (edfFin (sync S 120 120))) c4, .rw ty_impl_Schedule [.sl 4 0 120 c3, .sl 5 0 (sync S 120 120).length c4] 2]⟩) (fun k => k ≤ hyperN S) (Nat.zero_le _) (Wk.pick [0, 1, 2, 3, 4, 5, 6]) fun k hk hJ => ?_
      simp only [l0_laws_FnTableEdf, not_true_eq_false, not_false_eq_true, decide_true, decide_false, Bool.not_true, Bool.not_false, false_implies, true_implies, and_true, true_and, Bool.false_eq_true, Bool.true_eq_false, implies_true, Bool.not_not, Classical.not_not, go_sem, Int.reduceToNat, List.take_nil, Nat.zero_mul, Nat.reduceEqDiff, Nat.reduceAdd, Nat.reduceLT, Nat.reduceLeDiff, Nat.reduceMul, ↓reduceIte, reduceCtorEq]
      have fin : Fin 1 [.ro (encByte.row C), .rw ty_impl_Task (encTask.row S) (cap * 3), .rw ty_int (encInt.row (tabL S (hyperN S))) c1, .rw ty_int (encInt.row (tabL S (hyperN S))) c2, .rw ty_int (encInt.row (edfRun (sync S 120 120))) c3, .rw ty_int (encInt.row (edfFin (sync S 120 120))) c4, .rw ty_impl_Schedule [.sl 4 0 120 c3, .sl 5 0 (sync S 120 120).length c4] 2] (.b true) (fun x _ => x = .b true) := Fin.plain rfl
      refine ⟨fun h1 => ⟨fun h2 => ?_, fun h2 => ?_⟩, fun h1 => ?_⟩
      · have hkT : k < (tabL S (hyperN S)).length := by omega
        have hkR : k < (edfRun (sync S 120 120)).length := by omega
        have gR : gI (edfRun (sync S 120 120)) k = (edfRun (sync S 120 120))[k] := by simp [gI, List.getD_eq_getElem?_getD, hkR]
        have e1 := hE k (by omega)
        have e2 := hti k (by omega)
        have e3 := hb k
        have e4 := (tabAt_range (S := S) k).1
        rw [gR] at e1
        have e5 : tabAt S k < 0 ↔ (edfRun (sync S 120 120))[k] < 0 := by rw [e1]; omega
        simp only [rdI hkT, rdI hkR, tabL_get hkT, lenI, hTl, hR, not_true_eq_false, not_false_eq_true, decide_true, decide_false, Bool.not_true, Bool.not_false, false_implies, true_implies, and_true, true_and, Bool.false_eq_true, Bool.true_eq_false, implies_true, Bool.not_not, Classical.not_not, go_sem, Int.reduceToNat, List.take_nil, Nat.zero_mul, Nat.reduceEqDiff, Nat.reduceAdd, Nat.reduceLT, Nat.reduceLeDiff, Nat.reduceMul, ↓reduceIte, reduceCtorEq]
        exact ⟨by omega, by omega, by omega, by omega, fun hne => absurd (decide_eq_decide.2 e5) hne, fun _ => ⟨by omega, by omega, Wk.pick [0, 1, 2, 3, 4, 5, 6]⟩⟩
      · exact fin
      · exact fin
    · simp only [Int.reduceToNat, not_true_eq_false, not_false_eq_true, decide_true, decide_false, Bool.not_true, Bool.not_false, false_implies, true_implies, and_true, true_and, Bool.false_eq_true, Bool.true_eq_false, implies_true, Bool.not_not, Classical.not_not, go_sem, Int.reduceToNat, List.take_nil, Nat.zero_mul, Nat.reduceEqDiff, Nat.reduceAdd, Nat.reduceLT, Nat.reduceLeDiff, Nat.reduceMul, ↓reduceIte, reduceCtorEq]
      refine ⟨fun h => laws_alive_ ?_, fun h => ?_⟩
      · simp only [not_true_eq_false, not_false_eq_true, decide_true, decide_false, Bool.not_true, Bool.not_false, false_implies, true_implies, and_true, true_and, Bool.false_eq_true, Bool.true_eq_false, implies_true, Bool.not_not, Classical.not_not, go_sem, Int.reduceToNat, List.take_nil, Nat.zero_mul, Nat.reduceEqDiff, Nat.reduceAdd, Nat.reduceLT, Nat.reduceLeDiff, Nat.reduceMul, ↓reduceIte, reduceCtorEq]
        exact Fin.plain rfl
      have hti := hti (by omega)
      refine impl_RunEdf_ (S := S) (L := sync S 120 120) (by omega) (by omega) (Rd.own rfl) (Rd.own rfl) (fun hno => absurd hleg hno) (fun _ c3 c4 => ?_)
      simp only [not_true_eq_false, not_false_eq_true, decide_true, decide_false, Bool.not_true, Bool.not_false, false_implies, true_implies, and_true, true_and, Bool.false_eq_true, Bool.true_eq_false, implies_true, Bool.not_not, Classical.not_not, go_sem, Int.reduceToNat, List.take_nil, Nat.zero_mul, Nat.reduceEqDiff, Nat.reduceAdd, Nat.reduceLT, Nat.reduceLeDiff, Nat.reduceMul, ↓reduceIte, reduceCtorEq]
      refine loop_count 108 (fun k => ⟨[(4, .sl 2 0 (hyperN S) c1), (9, .p 7 0), (10, .i .i64 k)], [.ro (encByte.row C), .rw ty_impl_Task (encTask.row S) (cap * 3), .rw ty_int (encInt.row (tabL S (hyperN S))) c1, .rw ty_int (encInt.row (tabL S (hyperN S))) c2, .rw ty_impl_Job (encJob.row (sync S 120 120)) cJ, .rw ty_int (encInt.row (edfRun (sync S 120 120))) c3, .rw ty_int (encInt.row (edfFin (sync S 120 120))) c4, .rw ty_impl_Schedule [.sl 5 0 120 c3, .sl 6 0 (sync S 120 120).length c4] 2]⟩) (fun k => k ≤ hyperN S) (Nat.zero_le _) (Wk.pick [0, 1, 2, 3, 4, 5, 6, 7]) fun k hk hJ => ?_
      simp only [l0_laws_FnTableEdf, not_true_eq_false, not_false_eq_true, decide_true, decide_false, Bool.not_true, Bool.not_false, false_implies, true_implies, and_true, true_and, Bool.false_eq_true, Bool.true_eq_false, implies_true, Bool.not_not, Classical.not_not, go_sem, Int.reduceToNat, List.take_nil, Nat.zero_mul, Nat.reduceEqDiff, Nat.reduceAdd, Nat.reduceLT, Nat.reduceLeDiff, Nat.reduceMul, ↓reduceIte, reduceCtorEq]
      have fin : Fin 1 [.ro (encByte.row C), .rw ty_impl_Task (encTask.row S) (cap * 3), .rw ty_int (encInt.row (tabL S (hyperN S))) c1, .rw ty_int (encInt.row (tabL S (hyperN S))) c2, .rw ty_impl_Job (encJob.row (sync S 120 120)) cJ, .rw ty_int (encInt.row (edfRun (sync S 120 120))) c3, .rw ty_int (encInt.row (edfFin (sync S 120 120))) c4, .rw ty_impl_Schedule [.sl 5 0 120 c3, .sl 6 0 (sync S 120 120).length c4] 2] (.b true) (fun x _ => x = .b true) := Fin.plain rfl
      refine ⟨fun h1 => ⟨fun h2 => ?_, fun h2 => ?_⟩, fun h1 => ?_⟩
      · have hkT : k < (tabL S (hyperN S)).length := by omega
        have hkR : k < (edfRun (sync S 120 120)).length := by omega
        have gR : gI (edfRun (sync S 120 120)) k = (edfRun (sync S 120 120))[k] := by simp [gI, List.getD_eq_getElem?_getD, hkR]
        have e1 := hE k (by omega)
        have e2 := hti k (by omega)
        have e3 := hb k
        have e4 := (tabAt_range (S := S) k).1
        rw [gR] at e1
        have e5 : tabAt S k < 0 ↔ (edfRun (sync S 120 120))[k] < 0 := by rw [e1]; omega
        simp only [rdI hkT, rdI hkR, tabL_get hkT, lenI, hTl, hR, not_true_eq_false, not_false_eq_true, decide_true, decide_false, Bool.not_true, Bool.not_false, false_implies, true_implies, and_true, true_and, Bool.false_eq_true, Bool.true_eq_false, implies_true, Bool.not_not, Classical.not_not, go_sem, Int.reduceToNat, List.take_nil, Nat.zero_mul, Nat.reduceEqDiff, Nat.reduceAdd, Nat.reduceLT, Nat.reduceLeDiff, Nat.reduceMul, ↓reduceIte, reduceCtorEq]
        exact ⟨by omega, by omega, by omega, by omega, fun hne => absurd (decide_eq_decide.2 e5) hne, fun _ => ⟨by omega, by omega, Wk.pick [0, 1, 2, 3, 4, 5, 6, 7]⟩⟩
      · exact fin
      · exact fin
theorem c_FnTableEdf (C : List Nat) (c : Nat) (hC : ∀ x ∈ C, x < 256) (_ : C.length * 1 ≤ 140737488351232) (hc : C.length ≤ c) :
    CallWp Try.prog n_laws_FnTableEdf [.sl 0 0 C.length c] [.ro (encByte.row C)] (fun x _ => x = .b true) := laws_FnTableEdf0 C hC c hc
end Go.Proofs.Ytfngcejaphhmmaa
