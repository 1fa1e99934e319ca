/- The law FnRunPaused answers true: over the abstract heap. -/
import Derived.Test.YtdmoafmgeipenaaD7
import Derived.Test.YtdmoafmgeipenaaS12
import Derived.Test.YtdmoafmgeipenaaMM
namespace Go.Proofs.Ytdmoafmgeipenaa
open Go.Abs Go.Ds
set_option linter.unusedSimpArgs false
set_option linter.unusedVariables false
set_option maxRecDepth 20000
set_option maxHeartbeats 2000000

theorem pause_past (f n : Int) (L : List Job) : ∀ k : Nat, (k : Int) ≤ f → simU L (pausePick f n L) k = simU L (edfPick L) k := by
  intro k
  induction k with
  | zero => intro _; rfl
  | succ k ih =>
    intro h
    have e := ih (by omega)
    have e2 : pausePick f n L k (simU L (edfPick L) k).done = edfPick L k (simU L (edfPick L) k).done := by
      unfold pausePick
      rw [if_neg (by omega)]
    rw [simU_succ, simU_succ, e]
    unfold tick
    simp only [e2]

/-- What runs in a tick. -/
theorem pause_tick (f n : Int) (L : List Job) {k : Nat} (hk : k < 120) (h : k < (pauseRun f n L).length) (h' : k < (edfRun L).length) : ((k : Int) < f → (pauseRun f n L)[k] = (edfRun L)[k]) ∧ (f ≤ k → (k : Int) < f + n → (pauseRun f n L)[k] = -1) := by
  have e := simU_at (L := L) (pick := pausePick f n L) hk
  change gI (pauseRun f n L) k = _ at e
  rw [gI_row h] at e
  have e' := simU_at (L := L) (pick := edfPick L) hk
  change gI (edfRun L) k = _ at e'
  rw [gI_row h'] at e'
  refine ⟨fun hf => ?_, fun h1 h2 => ?_⟩
  · rw [e, e', pause_past f n L k (by omega)]
    unfold pausePick
    rw [if_neg (by omega)]
  · rw [e]
    unfold pausePick
    rw [if_pos ⟨h1, h2⟩]

theorem laws_FnRunPaused0 (C : List Nat) (hC : ∀ x ∈ C, x < 256) (c : Nat) (hc : C.length ≤ c) : CallWp Try.prog n_laws_FnRunPaused [.sl 0 0 C.length c] [.ro (encByte.row C)] (fun x _ => x = .b true) := by
  refine call_laws_FnRunPaused (by simp) ?_
  simp only [c_laws_FnRunPaused, go_sem, Int.reduceToNat, List.take_nil, Nat.zero_mul, Nat.reduceEqDiff, Nat.reduceAdd, Nat.reduceLT, Nat.reduceLeDiff, Nat.reduceMul, ↓reduceIte, reduceCtorEq]
  refine ⟨fun h => Fin.plain rfl, fun h => ?_⟩
  refine (spec_DrawRunPaused0 C hC c hc).mono ?_
  rintro x σ' _ ⟨S, L, cap, cap', f, n, rfl, rfl, ⟨hS8, hL62⟩, hf, hn⟩
  simp only [go_sem, Int.reduceToNat, List.take_nil, Nat.zero_mul, Nat.reduceEqDiff, Nat.reduceAdd, Nat.reduceLT, Nat.reduceLeDiff, Nat.reduceMul, ↓reduceIte, reduceCtorEq]
  by_cases hv : pauseOk S L f n
  · have hJ := hv.1
    have hR : (pauseRun f n L).length = 120 := (simU_lens 120).2.2
    have hF : (pauseFin f n L).length = L.length := (simU_lens 120).2.1
    have hR0 := edfRun_length L
    have hF0 := edfFin_length L
    refine impl_RunPaused_ (S := S) (L := L) (f := f) (n := n) (by omega) (by omega) (Rd.own rfl) (Rd.own rfl) (fun hno => absurd hv hno) (fun _ c1 c2 => ?_)
    simp only [go_sem, Int.reduceToNat, List.take_nil, Nat.zero_mul, Nat.reduceEqDiff, Nat.reduceAdd, Nat.reduceLT, Nat.reduceLeDiff, Nat.reduceMul, ↓reduceIte, reduceCtorEq]
    refine spec_RunPaused_ (S := S) (L := L) (f := f) (n := n) (by omega) (by omega) (Rd.own rfl) (Rd.own rfl) (fun hno => absurd hv hno) (fun _ => ?_)
    rintro x τ (⟨hno, _⟩ | ⟨_, d1, d2, ⟨hne, rfl, rfl⟩ | ⟨hne, rfl, rfl⟩⟩)
    · exact absurd trivial hno
    all_goals
      simp only [go_sem, Int.reduceToNat, List.take_nil, Nat.zero_mul, Nat.reduceEqDiff, Nat.reduceAdd, Nat.reduceLT, Nat.reduceLeDiff, Nat.reduceMul, ↓reduceIte, reduceCtorEq]
      refine laws_sameSchedule_ (X1 := pauseRun f n L) (Y1 := pauseFin f n L) (X2 := pauseRun f n L) (Y2 := pauseFin f n L) (Rd.len' rfl hR) (Rd.len' rfl hF) (Rd.len' rfl hR) (by first | exact Rd.own rfl | (rw [hne]; exact Rd.none (by simp))) (by omega) (by omega) ?_
      simp only [not_true_eq_false, not_false_eq_true, decide_true, decide_false, Bool.not_true, Bool.not_false, false_implies, true_implies, and_true, true_and, Bool.false_eq_true, Bool.true_eq_false, implies_true, Bool.not_not, Classical.not_not, go_sem, Int.reduceToNat, List.take_nil, Nat.zero_mul, Nat.reduceEqDiff, Nat.reduceAdd, Nat.reduceLT, Nat.reduceLeDiff, Nat.reduceMul, ↓reduceIte, reduceCtorEq]
      refine ⟨fun h => absurd rfl h, fun _ => ?_⟩
      refine impl_RunEdf_ (S := S) (L := L) (by omega) (by omega) (Rd.own rfl) (Rd.own rfl) (fun hno => absurd hJ hno) (fun _ c3 c4 => ?_)
      simp only [go_sem, Int.reduceToNat, List.take_nil, Nat.zero_mul, Nat.reduceEqDiff, Nat.reduceAdd, Nat.reduceLT, Nat.reduceLeDiff, Nat.reduceMul, ↓reduceIte, reduceCtorEq]
      refine loop_count 120 (fun k => ⟨[(3, .sl 1 0 S.length cap), (4, .sl 2 0 L.length cap'), (5, .i .i64 f), (6, .i .i64 n), (7, .p 5 0), (8, .p 8 0), (9, .i .i64 k)], [.ro (encByte.row C), .rw ty_impl_Task (encTask.row S) (cap * 3), .rw ty_impl_Job (encJob.row L) (cap' * 4), .rw ty_int (encInt.row (pauseRun f n L)) c1, .rw ty_int (encInt.row (pauseFin f n L)) c2, .rw ty_impl_Schedule [.sl 3 0 120 c1, .sl 4 0 L.length c2] 2, .rw ty_int (encInt.row (edfRun L)) c3, .rw ty_int (encInt.row (edfFin L)) c4, .rw ty_impl_Schedule [.sl 6 0 120 c3, .sl 7 0 L.length c4] 2]⟩)
        (fun _ => True) trivial (by first | exact Wk.pickR [0, 1, 2, 3, 4, 5, 8, 9, 10] | exact Wk.pickR [0, 1, 2, 3, 4, 5, 7, 8, 9]) fun k hk _ => ?_
      simp only [l0_laws_FnRunPaused, not_true_eq_false, not_false_eq_true, decide_true, decide_false, Bool.not_true, Bool.not_false, false_implies, true_implies, and_true, true_and, Bool.false_eq_true, Bool.true_eq_false, implies_true, Bool.not_not, Classical.not_not, go_sem, Int.reduceToNat, List.take_nil, Nat.zero_mul, Nat.reduceEqDiff, Nat.reduceAdd, Nat.reduceLT, Nat.reduceLeDiff, Nat.reduceMul, ↓reduceIte, reduceCtorEq]
      refine ⟨fun hlt => ?_, fun hge => ?_⟩
      · have hk1 : k < (pauseRun f n L).length := by omega
        have hk2 : k < (edfRun L).length := by omega
        have ht := pause_tick f n L (by omega) hk1 hk2
        simp only [rdI hk1, rdI hk2, lenI, hR, hR0, not_true_eq_false, not_false_eq_true, decide_true, decide_false, Bool.not_true, Bool.not_false, false_implies, true_implies, and_true, true_and, Bool.false_eq_true, Bool.true_eq_false, implies_true, Bool.not_not, Classical.not_not, go_sem, Int.reduceToNat, List.take_nil, Nat.zero_mul, Nat.reduceEqDiff, Nat.reduceAdd, Nat.reduceLT, Nat.reduceLeDiff, Nat.reduceMul, ↓reduceIte, reduceCtorEq]
        repeat' first | omega | (exfalso; omega) | exact Wk.pickR [0, 1, 2, 3, 4, 5, 6, 7, 8] | refine ⟨?_, ?_⟩ | intro _
      · refine impl_RunPaused_ (S := S) (L := L) (f := f) (n := 0) (by omega) (by omega) (Rd.own rfl) (Rd.own rfl) (fun hno => absurd ⟨hJ, hv.2.1, by omega, by omega⟩ hno) (fun _ c5 c6 => ?_)
        rw [pauseRun_zero, pauseFin_zero]
        simp only [not_true_eq_false, not_false_eq_true, decide_true, decide_false, Bool.not_true, Bool.not_false, false_implies, true_implies, and_true, true_and, Bool.false_eq_true, Bool.true_eq_false, implies_true, Bool.not_not, Classical.not_not, go_sem, Int.reduceToNat, List.take_nil, Nat.zero_mul, Nat.reduceEqDiff, Nat.reduceAdd, Nat.reduceLT, Nat.reduceLeDiff, Nat.reduceMul, ↓reduceIte, reduceCtorEq]
        refine laws_sameSchedule_ (X1 := edfRun L) (Y1 := edfFin L) (X2 := edfRun L) (Y2 := edfFin L) (Rd.len' rfl hR0) (Rd.len' rfl hF0) (Rd.len' rfl hR0) (Rd.len' rfl hF0) (by omega) (by omega) ?_
        simp only [not_true_eq_false, not_false_eq_true, decide_true, decide_false, Bool.not_true, Bool.not_false, false_implies, true_implies, and_true, true_and, Bool.false_eq_true, Bool.true_eq_false, implies_true, Bool.not_not, Classical.not_not, go_sem, Int.reduceToNat, List.take_nil, Nat.zero_mul, Nat.reduceEqDiff, Nat.reduceAdd, Nat.reduceLT, Nat.reduceLeDiff, Nat.reduceMul, ↓reduceIte, reduceCtorEq]
        exact Fin.plain rfl
  · refine impl_RunPaused_ (S := S) (L := L) (f := f) (n := n) (by omega) (by omega) (Rd.own rfl) (Rd.own rfl) (fun _ => ?_) (fun h => absurd h hv)
    simp only [go_sem, Int.reduceToNat, List.take_nil, Nat.zero_mul, Nat.reduceEqDiff, Nat.reduceAdd, Nat.reduceLT, Nat.reduceLeDiff, Nat.reduceMul, ↓reduceIte, reduceCtorEq]
    refine spec_RunPaused_ (S := S) (L := L) (f := f) (n := n) (by omega) (by omega) (Rd.own rfl) (Rd.own rfl) (fun _ => ?_) (fun h => absurd h hv)
    simp only [go_sem, Int.reduceToNat, List.take_nil, Nat.zero_mul, Nat.reduceEqDiff, Nat.reduceAdd, Nat.reduceLT, Nat.reduceLeDiff, Nat.reduceMul, ↓reduceIte, reduceCtorEq]
    refine laws_sameSchedule_ (X1 := []) (Y1 := []) (X2 := []) (Y2 := []) (Rd.none (by simp)) (Rd.none (by simp)) (Rd.none (by simp)) (Rd.none (by simp)) (by simp) (by simp) ?_
    simp only [not_true_eq_false, not_false_eq_true, decide_true, decide_false, Bool.not_true, Bool.not_false, false_implies, true_implies, and_true, true_and, Bool.false_eq_true, Bool.true_eq_false, implies_true, Bool.not_not, Classical.not_not, go_sem, Int.reduceToNat, List.take_nil, Nat.zero_mul, Nat.reduceEqDiff, Nat.reduceAdd, Nat.reduceLT, Nat.reduceLeDiff, Nat.reduceMul, ↓reduceIte, reduceCtorEq]
    refine ⟨fun _ => ⟨by decide, fun _ => laws_alive_ ?_, fun h => absurd rfl h⟩, fun h => absurd h (by decide)⟩
    simp only [not_true_eq_false, not_false_eq_true, decide_true, decide_false, Bool.not_true, Bool.not_false, false_implies, true_implies, and_true, true_and, Bool.false_eq_true, Bool.true_eq_false, implies_true, Bool.not_not, Classical.not_not, go_sem, Int.reduceToNat, List.take_nil, Nat.zero_mul, Nat.reduceEqDiff, Nat.reduceAdd, Nat.reduceLT, Nat.reduceLeDiff, Nat.reduceMul, ↓reduceIte, reduceCtorEq]
    exact Fin.plain rfl
theorem c_FnRunPaused (C : List Nat) (c : Nat) (hC : ∀ x ∈ C, x < 256) (_ : C.length * 1 ≤ 140737488351232) (hc : C.length ≤ c) :
    CallWp Try.prog n_laws_FnRunPaused [.sl 0 0 C.length c] [.ro (encByte.row C)] (fun x _ => x = .b true) := laws_FnRunPaused0 C hC c hc
end Go.Proofs.Ytdmoafmgeipenaa
