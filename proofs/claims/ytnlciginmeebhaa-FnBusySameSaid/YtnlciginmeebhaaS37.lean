/- What a run with shared resources is drawn from. -/
import Derived.Test.YtnlciginmeebhaaS36
import Derived.Test.YtnlciginmeebhaaF2
import Derived.Test.YtnlciginmeebhaaD4
namespace Go.Proofs.Ytnlciginmeebhaa
open Go.Abs Go.Ds
set_option linter.unusedSimpArgs false
set_option linter.unusedVariables false
set_option maxRecDepth 20000
set_option maxHeartbeats 2000000

def SecP (p : Int) (x : AV) (p' : Int) (τ : List AB) : Prop := (p ≤ p' ∧ p' ≤ p + 60) ∧ ∃ (X : List Sec) (cap : Nat), x = .sl 3 0 X.length cap ∧ τ = [.rw ty_impl_Section (encSec.row X) (cap * 3)] ∧ X.length ≤ 9

theorem spec_l20Sections0 (B : List Nat) (p : Int) (hC : Code B) (hp : 0 ≤ p ∧ p ≤ 3600000000000) (S : List Task) (hS : S.length ≤ 8 ∧ ∀ t ∈ S, wildT t) (n : Int) (hn : n ≤ 1000) (c c2 : Nat) :
    CallWp Try.prog n_spec_l20Sections [.p 1 0, .sl 2 0 S.length c2, .i .i64 n] (rdr B c p ++ [.ro (encTask.row S)]) (fun x σ' => ∃ p' τ, σ' = (rdr B c p' ++ [.ro (encTask.row S)]) ++ τ ∧ SecP p x p' τ) := by
  obtain ⟨hS8, hSw⟩ := hS
  refine call_spec_l20Sections (by simp) ?_
  simp only [c_spec_l20Sections, go_sem, Int.reduceToNat, List.take_nil, Nat.zero_mul, Nat.reduceEqDiff, Nat.reduceAdd, Nat.reduceLT, Nat.reduceLeDiff, Nat.reduceMul, ↓reduceIte, reduceCtorEq]
  refine loop_intro (fun i : List Sec × Nat × Int => ⟨[(0, .p 1 0), (1, .sl 2 0 S.length c2), (2, .i .i64 n), (7, .sl 3 0 i.1.length i.2.1), (8, .i .i64 i.1.length)], rdr B c i.2.2 ++ [.ro (encTask.row S), .rw ty_impl_Section (encSec.row i.1) (i.2.1 * 3)]⟩)
    (fun i => (i.1.length ≤ S.length ∧ i.1.length ≤ i.2.1) ∧ p ≤ i.2.2 ∧ i.2.2 ≤ p + 4 * i.1.length) (fun i => S.length - i.1.length) ([], 0, p) ?_ (Wk.pick [0, 1, 2, 3]) ?_
  · simp only [List.length_nil]; omega
  rintro ⟨X, cap, q⟩ ⟨⟨hk1, hk2⟩, hq1, hq2⟩
  simp only at hk1 hk2 hq1 hq2
  simp only [l0_spec_l20Sections, not_true_eq_false, not_false_eq_true, decide_true, decide_false, Bool.not_true, Bool.not_false, false_implies, true_implies, and_true, true_and, Bool.false_eq_true, Bool.true_eq_false, implies_true, Bool.not_not, Classical.not_not, go_sem, Int.reduceToNat, List.take_nil, Nat.zero_mul, Nat.reduceEqDiff, Nat.reduceAdd, Nat.reduceLT, Nat.reduceLeDiff, Nat.reduceMul, ↓reduceIte, reduceCtorEq]
  refine ⟨fun hl => ?_, fun hl => ?_⟩
  · have hw := hSw _ (List.getElem_mem hl)
    unfold wildT at hw
    have e2 : ∀ s : Sec, (X ++ [s]).length = X.length + 1 := fun s => by simp
    have e3 : ∀ a b d : Int, List.take (X.length * 3) (encSec.row X) ++ [AV.i IntKind.i64 a, AV.i IntKind.i64 b, AV.i IntKind.i64 d] = encSec.row (X ++ [⟨a, b, d⟩]) := fun a b d => by simp only [takeX, appX]
    refine seq_join (fun i : Bool × Int => ⟨[(0, .p 1 0), (1, .sl 2 0 S.length c2), (2, .i .i64 n), (7, .sl 3 0 X.length cap), (8, .i .i64 X.length), (9, .p 4 0), (28, .b i.1)], rdr B c i.2 ++ [.ro (encTask.row S), .rw ty_impl_Section (encSec.row X) (cap * 3), .rw ty_impl_Section [.i .i64 0, .i .i64 0, .i .i64 0] 3]⟩)
      (fun i => (i.1 = true → 0 < S[X.length].C) ∧ q ≤ i.2 ∧ i.2 ≤ q + 1) ?_ ?_
    · simp only [rdT0 hl, lenT, not_true_eq_false, not_false_eq_true, decide_true, decide_false, Bool.not_true, Bool.not_false, false_implies, true_implies, and_true, true_and, Bool.false_eq_true, Bool.true_eq_false, implies_true, Bool.not_not, Classical.not_not, go_sem, Int.reduceToNat, List.take_nil, Nat.zero_mul, Nat.reduceEqDiff, Nat.reduceAdd, Nat.reduceLT, Nat.reduceLeDiff, Nat.reduceMul, ↓reduceIte, reduceCtorEq]
      refine ⟨hl, by omega, fun h0 => spec_l20Rd_pick_ (Rdr.of (τ := [_, _, _])) hC (by omega) _ (by omega) fun r h1 h2 _ => ?_, fun h0 => ?_⟩
      · simp only [not_true_eq_false, not_false_eq_true, decide_true, decide_false, Bool.not_true, Bool.not_false, false_implies, true_implies, and_true, true_and, Bool.false_eq_true, Bool.true_eq_false, implies_true, Bool.not_not, Classical.not_not, go_sem, Int.reduceToNat, List.take_nil, Nat.zero_mul, Nat.reduceEqDiff, Nat.reduceAdd, Nat.reduceLT, Nat.reduceLeDiff, Nat.reduceMul, ↓reduceIte, reduceCtorEq]
        exact kJ_intro (decide (0 < r), q + 1) (by simp only; exact ⟨fun _ => h0, by omega⟩) (Wk.pick [0, 1, 2, 3, 4])
      · refine kJ_intro (false, q) (by simp only; exact ⟨fun h => absurd h (by decide), by omega⟩) ?_
        first
          | exact Wk.pick [0, 1, 2, 3, 4]
          | (simp only [h0, not_true_eq_false, not_false_eq_true, decide_true, decide_false, Bool.not_true, Bool.not_false, false_implies, true_implies, and_true, true_and, Bool.false_eq_true, Bool.true_eq_false, implies_true, Bool.not_not, Classical.not_not]; exact Wk.pick [0, 1, 2, 3, 4])
    · rintro ⟨b, q1⟩ ⟨hb1, hb2, hb3⟩
      simp only at hb1 hb2 hb3
      simp only [not_true_eq_false, not_false_eq_true, decide_true, decide_false, Bool.not_true, Bool.not_false, false_implies, true_implies, and_true, true_and, Bool.false_eq_true, Bool.true_eq_false, implies_true, Bool.not_not, Classical.not_not, go_sem, Int.reduceToNat, List.take_nil, Nat.zero_mul, Nat.reduceEqDiff, Nat.reduceAdd, Nat.reduceLT, Nat.reduceLeDiff, Nat.reduceMul, ↓reduceIte, reduceCtorEq]
      refine bc_of (fun hb => ?_) (fun hb => ?_)
      · have hc0 := hb1 hb
        simp only [rdT0 hl, lenT, not_true_eq_false, not_false_eq_true, decide_true, decide_false, Bool.not_true, Bool.not_false, false_implies, true_implies, and_true, true_and, Bool.false_eq_true, Bool.true_eq_false, implies_true, Bool.not_not, Classical.not_not, go_sem, Int.reduceToNat, List.take_nil, Nat.zero_mul, Nat.reduceEqDiff, Nat.reduceAdd, Nat.reduceLT, Nat.reduceLeDiff, Nat.reduceMul, ↓reduceIte, reduceCtorEq]
        refine ⟨hl, by omega, spec_l20Rd_pick_ (Rdr.of (τ := [_, _, _])) hC (by omega) _ (by omega) fun r h1 h2 _ => ?_⟩
        have h2 := h2 (by omega)
        simp only [rdT0 hl, lenT, not_true_eq_false, not_false_eq_true, decide_true, decide_false, Bool.not_true, Bool.not_false, false_implies, true_implies, and_true, true_and, Bool.false_eq_true, Bool.true_eq_false, implies_true, Bool.not_not, Classical.not_not, go_sem, Int.reduceToNat, List.take_nil, Nat.zero_mul, Nat.reduceEqDiff, Nat.reduceAdd, Nat.reduceLT, Nat.reduceLeDiff, Nat.reduceMul, ↓reduceIte, reduceCtorEq]
        refine ⟨by omega, hl, by omega, by omega, by omega, ?_⟩
        refine spec_l20Rd_pick_ (Rdr.of (τ := [_, _, _])) hC (by omega) _ (by omega) fun r2 g1 g2 _ => ?_
        simp only [rdT0 hl, lenT, not_true_eq_false, not_false_eq_true, decide_true, decide_false, Bool.not_true, Bool.not_false, false_implies, true_implies, and_true, true_and, Bool.false_eq_true, Bool.true_eq_false, implies_true, Bool.not_not, Classical.not_not, go_sem, Int.reduceToNat, List.take_nil, Nat.zero_mul, Nat.reduceEqDiff, Nat.reduceAdd, Nat.reduceLT, Nat.reduceLeDiff, Nat.reduceMul, ↓reduceIte, reduceCtorEq]
        refine ⟨by omega, spec_l20Rd_pick_ (p := q1 + 1 + 1) (Rdr.of (τ := [_, _, _])) hC (by omega) 2 (by omega) fun r3 k1 k2 _ => ?_⟩
        simp only [lenX, not_true_eq_false, not_false_eq_true, decide_true, decide_false, Bool.not_true, Bool.not_false, false_implies, true_implies, and_true, true_and, Bool.false_eq_true, Bool.true_eq_false, implies_true, Bool.not_not, Classical.not_not, go_sem, Int.reduceToNat, List.take_nil, Nat.zero_mul, Nat.reduceEqDiff, Nat.reduceAdd, Nat.reduceLT, Nat.reduceLeDiff, Nat.reduceMul, ↓reduceIte, reduceCtorEq]
        refine ⟨by omega, fun cap' hcap => ⟨by omega, (X ++ [⟨r2, 1 + r, r3⟩], cap', q1 + 1 + 1 + 1), ⟨⟨⟨by simp only [e2]; omega, by simp only [e2]; exact hcap⟩, by simp only [e2]; omega⟩, by simp only [e2]; omega⟩, ?_⟩⟩
        simp only [e2, e3]
        exact Wk.pick [0, 1, 2, 6]
      · simp only [lenX, not_true_eq_false, not_false_eq_true, decide_true, decide_false, Bool.not_true, Bool.not_false, false_implies, true_implies, and_true, true_and, Bool.false_eq_true, Bool.true_eq_false, implies_true, Bool.not_not, Classical.not_not, go_sem, Int.reduceToNat, List.take_nil, Nat.zero_mul, Nat.reduceEqDiff, Nat.reduceAdd, Nat.reduceLT, Nat.reduceLeDiff, Nat.reduceMul, ↓reduceIte, reduceCtorEq]
        refine ⟨by omega, fun cap' hcap => ⟨by omega, (X ++ [⟨0, 0, 0⟩], cap', q1), ⟨⟨⟨by simp only [e2]; omega, by simp only [e2]; exact hcap⟩, by simp only [e2]; omega⟩, by simp only [e2]; omega⟩, ?_⟩⟩
        simp only [e2, e3]
        exact Wk.pick [0, 1, 2, 6]
  · refine seq_join (fun i : List Sec × Nat × Int => ⟨[(7, .sl 3 0 i.1.length i.2.1)], rdr B c i.2.2 ++ [.ro (encTask.row S), .rw ty_impl_Section (encSec.row i.1) (i.2.1 * 3)]⟩)
      (fun i => i.1.length ≤ 9 ∧ p ≤ i.2.2 ∧ i.2.2 ≤ p + 60) ?_ ?_
    · simp only [not_true_eq_false, not_false_eq_true, decide_true, decide_false, Bool.not_true, Bool.not_false, false_implies, true_implies, and_true, true_and, Bool.false_eq_true, Bool.true_eq_false, implies_true, Bool.not_not, Classical.not_not, go_sem, Int.reduceToNat, List.take_nil, Nat.zero_mul, Nat.reduceEqDiff, Nat.reduceAdd, Nat.reduceLT, Nat.reduceLeDiff, Nat.reduceMul, ↓reduceIte, reduceCtorEq]
      refine spec_l20Rd_odd_ (Rdr.of (τ := [_, _])) hC (by omega) _ (by omega) fun b q1 hb1 hb2 hb3 => ?_
      simp only [not_true_eq_false, not_false_eq_true, decide_true, decide_false, Bool.not_true, Bool.not_false, false_implies, true_implies, and_true, true_and, Bool.false_eq_true, Bool.true_eq_false, implies_true, Bool.not_not, Classical.not_not, go_sem, Int.reduceToNat, List.take_nil, Nat.zero_mul, Nat.reduceEqDiff, Nat.reduceAdd, Nat.reduceLT, Nat.reduceLeDiff, Nat.reduceMul, ↓reduceIte, reduceCtorEq]
      refine bc_of (fun hb => ?_) (fun hb => kJ_intro (X, cap, q1) ⟨by simp only; omega, by simp only; omega⟩ (Wk.pick [0, 1, 2, 3]))
      refine seq_join (fun i : Bool × Int => ⟨[(0, .p 1 0), (1, .sl 2 0 S.length c2), (2, .i .i64 n), (7, .sl 3 0 X.length cap), (67, .b i.1)], rdr B c i.2 ++ [.ro (encTask.row S), .rw ty_impl_Section (encSec.row X) (cap * 3)]⟩)
        (fun i => (i.1 = false → 0 < X.length) ∧ q1 ≤ i.2 ∧ i.2 ≤ q1 + 1) ?_ ?_
      · simp only [not_true_eq_false, not_false_eq_true, decide_true, decide_false, Bool.not_true, Bool.not_false, false_implies, true_implies, and_true, true_and, Bool.false_eq_true, Bool.true_eq_false, implies_true, Bool.not_not, Classical.not_not, go_sem, Int.reduceToNat, List.take_nil, Nat.zero_mul, Nat.reduceEqDiff, Nat.reduceAdd, Nat.reduceLT, Nat.reduceLeDiff, Nat.reduceMul, ↓reduceIte, reduceCtorEq]
        refine ⟨fun h0 => ?_, fun h0 => ?_⟩
        · refine spec_l20Rd_pick_ (Rdr.of (τ := [_, _])) hC (by omega) _ (by omega) fun r2 h21 h22 _ => ?_
          simp only [not_true_eq_false, not_false_eq_true, decide_true, decide_false, Bool.not_true, Bool.not_false, false_implies, true_implies, and_true, true_and, Bool.false_eq_true, Bool.true_eq_false, implies_true, Bool.not_not, Classical.not_not, go_sem, Int.reduceToNat, List.take_nil, Nat.zero_mul, Nat.reduceEqDiff, Nat.reduceAdd, Nat.reduceLT, Nat.reduceLeDiff, Nat.reduceMul, ↓reduceIte, reduceCtorEq]
          exact kJ_intro (decide (r2 = 0), q1 + 1) (by simp only; exact ⟨fun _ => by omega, by omega⟩) (Wk.pick [0, 1, 2, 3])
        · refine kJ_intro (true, q1) (by simp only; exact ⟨fun h => absurd h (by decide), by omega⟩) ?_
          first
            | exact Wk.pick [0, 1, 2, 3]
            | (simp only [h0, not_true_eq_false, not_false_eq_true, decide_true, decide_false, Bool.not_true, Bool.not_false, false_implies, true_implies, and_true, true_and, Bool.false_eq_true, Bool.true_eq_false, implies_true, Bool.not_not, Classical.not_not]; exact Wk.pick [0, 1, 2, 3])
      · rintro ⟨b, q2⟩ ⟨hb1, hb2, hb3⟩
        simp only at hb1 hb2 hb3
        simp only [not_true_eq_false, not_false_eq_true, decide_true, decide_false, Bool.not_true, Bool.not_false, false_implies, true_implies, and_true, true_and, Bool.false_eq_true, Bool.true_eq_false, implies_true, Bool.not_not, Classical.not_not, go_sem, Int.reduceToNat, List.take_nil, Nat.zero_mul, Nat.reduceEqDiff, Nat.reduceAdd, Nat.reduceLT, Nat.reduceLeDiff, Nat.reduceMul, ↓reduceIte, reduceCtorEq]
        refine bc_of (fun hb => ?_) (fun hb => ?_)
        · have e2 : (X ++ [(⟨0, 0, 0⟩ : Sec)]).length = X.length + 1 := by simp
          have e3 : List.take (X.length * 3) (encSec.row X) ++ [AV.i IntKind.i64 0, AV.i IntKind.i64 0, AV.i IntKind.i64 0] = encSec.row (X ++ [⟨0, 0, 0⟩]) := by simp only [takeX, appX]
          simp only [lenX]
          refine ⟨by omega, fun cap' hcap => ?_⟩
          rw [e3, ← e2]
          exact Fin.pick [0, 1, 2, 5] (.sl 3 0 (X ++ [(⟨0, 0, 0⟩ : Sec)]).length cap') [.ro (encByte.row B), .rw ty_spec_l20Rd [.sl 0 0 B.length c, .i .i64 q2] 2, .ro (encTask.row S), .rw ty_impl_Section (encSec.row (X ++ [⟨0, 0, 0⟩])) (cap' * 3)] ⟨q2, _, rfl, by omega, _, cap', rfl, rfl, by rw [e2]; omega⟩
        · have hpos := hb1 hb
          refine spec_l20Rd_pick_ (Rdr.of (τ := [_, _])) hC (by omega) _ (by omega) fun r4 h41 h42 _ => ?_
          have h42' := h42 (by omega)
          simp only [not_true_eq_false, not_false_eq_true, decide_true, decide_false, Bool.not_true, Bool.not_false, false_implies, true_implies, and_true, true_and, Bool.false_eq_true, Bool.true_eq_false, implies_true, Bool.not_not, Classical.not_not, go_sem, Int.reduceToNat, List.take_nil, Nat.zero_mul, Nat.reduceEqDiff, Nat.reduceAdd, Nat.reduceLT, Nat.reduceLeDiff, Nat.reduceMul, ↓reduceIte, reduceCtorEq]
          refine spec_l20Rd_pick_ (Rdr.of (τ := [_, _, _])) hC (by omega) _ (by omega) fun r5 h51 h52 _ => ?_
          have h52' := h52 (by omega)
          obtain ⟨r4, rfl⟩ := Int.eq_ofNat_of_zero_le h41
          have hr4 : r4 < X.length := by omega
          have splX : ∀ a b d : Int, spl (encSec.row X) (r4 * 3) [.i .i64 a, .i .i64 b, .i .i64 d] = encSec.row (X.set r4 ⟨a, b, d⟩) := fun a b d => encSec.set X r4 hr4 ⟨a, b, d⟩
          rcases (show r5 = 0 ∨ r5 = 1 ∨ r5 = 2 ∨ r5 = 3 ∨ r5 = 4 ∨ r5 = 5 by omega) with rfl | rfl | rfl | rfl | rfl | rfl
          · simp only [Abs.win, List.drop_succ_cons, List.drop_zero, List.take_succ_cons, List.take_zero, Int.toNat_natCast, lenX, splX, Int.reduceToNat, not_true_eq_false, not_false_eq_true, decide_true, decide_false, Bool.not_true, Bool.not_false, false_implies, true_implies, and_true, true_and, Bool.false_eq_true, Bool.true_eq_false, implies_true, Bool.not_not, Classical.not_not, go_sem, Int.reduceToNat, List.take_nil, Nat.zero_mul, Nat.reduceEqDiff, Nat.reduceAdd, Nat.reduceLT, Nat.reduceLeDiff, Nat.reduceMul, ↓reduceIte, reduceCtorEq]
            refine ⟨by omega, hr4, by omega, kJ_intro (X.set r4 ⟨1, 0, 0⟩, cap, q2 + 1 + 1) ⟨by simp only [List.length_set]; omega, by simp only; omega⟩ ?_⟩
            simp only [List.length_set]
            exact Wk.pick [0, 1, 2, 3]
          · simp only [Abs.win, List.drop_succ_cons, List.drop_zero, List.take_succ_cons, List.take_zero, Int.toNat_natCast, lenX, splX, Int.reduceToNat, not_true_eq_false, not_false_eq_true, decide_true, decide_false, Bool.not_true, Bool.not_false, false_implies, true_implies, and_true, true_and, Bool.false_eq_true, Bool.true_eq_false, implies_true, Bool.not_not, Classical.not_not, go_sem, Int.reduceToNat, List.take_nil, Nat.zero_mul, Nat.reduceEqDiff, Nat.reduceAdd, Nat.reduceLT, Nat.reduceLeDiff, Nat.reduceMul, ↓reduceIte, reduceCtorEq]
            refine ⟨by omega, hr4, by omega, kJ_intro (X.set r4 ⟨0, -1, 0⟩, cap, q2 + 1 + 1) ⟨by simp only [List.length_set]; omega, by simp only; omega⟩ ?_⟩
            simp only [List.length_set]
            exact Wk.pick [0, 1, 2, 3]
          · simp only [Abs.win, List.drop_succ_cons, List.drop_zero, List.take_succ_cons, List.take_zero, Int.toNat_natCast, lenX, splX, Int.reduceToNat, not_true_eq_false, not_false_eq_true, decide_true, decide_false, Bool.not_true, Bool.not_false, false_implies, true_implies, and_true, true_and, Bool.false_eq_true, Bool.true_eq_false, implies_true, Bool.not_not, Classical.not_not, go_sem, Int.reduceToNat, List.take_nil, Nat.zero_mul, Nat.reduceEqDiff, Nat.reduceAdd, Nat.reduceLT, Nat.reduceLeDiff, Nat.reduceMul, ↓reduceIte, reduceCtorEq]
            refine ⟨by omega, hr4, by omega, kJ_intro (X.set r4 ⟨0, 1, 3⟩, cap, q2 + 1 + 1) ⟨by simp only [List.length_set]; omega, by simp only; omega⟩ ?_⟩
            simp only [List.length_set]
            exact Wk.pick [0, 1, 2, 3]
          · simp only [Abs.win, List.drop_succ_cons, List.drop_zero, List.take_succ_cons, List.take_zero, Int.toNat_natCast, lenX, splX, Int.reduceToNat, not_true_eq_false, not_false_eq_true, decide_true, decide_false, Bool.not_true, Bool.not_false, false_implies, true_implies, and_true, true_and, Bool.false_eq_true, Bool.true_eq_false, implies_true, Bool.not_not, Classical.not_not, go_sem, Int.reduceToNat, List.take_nil, Nat.zero_mul, Nat.reduceEqDiff, Nat.reduceAdd, Nat.reduceLT, Nat.reduceLeDiff, Nat.reduceMul, ↓reduceIte, reduceCtorEq]
            refine ⟨by omega, hr4, by omega, kJ_intro (X.set r4 ⟨0, 9, 0⟩, cap, q2 + 1 + 1) ⟨by simp only [List.length_set]; omega, by simp only; omega⟩ ?_⟩
            simp only [List.length_set]
            exact Wk.pick [0, 1, 2, 3]
          · simp only [Abs.win, List.drop_succ_cons, List.drop_zero, List.take_succ_cons, List.take_zero, Int.toNat_natCast, lenX, splX, Int.reduceToNat, not_true_eq_false, not_false_eq_true, decide_true, decide_false, Bool.not_true, Bool.not_false, false_implies, true_implies, and_true, true_and, Bool.false_eq_true, Bool.true_eq_false, implies_true, Bool.not_not, Classical.not_not, go_sem, Int.reduceToNat, List.take_nil, Nat.zero_mul, Nat.reduceEqDiff, Nat.reduceAdd, Nat.reduceLT, Nat.reduceLeDiff, Nat.reduceMul, ↓reduceIte, reduceCtorEq]
            refine ⟨by omega, hr4, by omega, kJ_intro (X.set r4 ⟨-1, 1, 0⟩, cap, q2 + 1 + 1) ⟨by simp only [List.length_set]; omega, by simp only; omega⟩ ?_⟩
            simp only [List.length_set]
            exact Wk.pick [0, 1, 2, 3]
          · simp only [Abs.win, List.drop_succ_cons, List.drop_zero, List.take_succ_cons, List.take_zero, Int.toNat_natCast, lenX, splX, Int.reduceToNat, not_true_eq_false, not_false_eq_true, decide_true, decide_false, Bool.not_true, Bool.not_false, false_implies, true_implies, and_true, true_and, Bool.false_eq_true, Bool.true_eq_false, implies_true, Bool.not_not, Classical.not_not, go_sem, Int.reduceToNat, List.take_nil, Nat.zero_mul, Nat.reduceEqDiff, Nat.reduceAdd, Nat.reduceLT, Nat.reduceLeDiff, Nat.reduceMul, ↓reduceIte, reduceCtorEq]
            refine ⟨by omega, hr4, by omega, kJ_intro (X.set r4 ⟨8, 1, 0⟩, cap, q2 + 1 + 1) ⟨by simp only [List.length_set]; omega, by simp only; omega⟩ ?_⟩
            simp only [List.length_set]
            exact Wk.pick [0, 1, 2, 3]
    · rintro ⟨X', cap', q'⟩ ⟨h1, h2⟩
      simp only at h1 h2
      simp only [not_true_eq_false, not_false_eq_true, decide_true, decide_false, Bool.not_true, Bool.not_false, false_implies, true_implies, and_true, true_and, Bool.false_eq_true, Bool.true_eq_false, implies_true, Bool.not_not, Classical.not_not, go_sem, Int.reduceToNat, List.take_nil, Nat.zero_mul, Nat.reduceEqDiff, Nat.reduceAdd, Nat.reduceLT, Nat.reduceLeDiff, Nat.reduceMul, ↓reduceIte, reduceCtorEq]
      exact Fin.plain ⟨q', _, rfl, h2, X', cap', rfl, rfl, h1⟩
theorem spec_l20Sections_ {σ : List AB} {n m o c : Nat} {B : List Nat} {p : Int} (h : Rdr ty_spec_l20Rd σ n B p m o c) (hC : Code B) (hp : 0 ≤ p ∧ p ≤ 3600000000000) {S : List Task} (hS : S.length ≤ 8 ∧ ∀ t ∈ S, wildT t) {v : AV} (hv : (⟨v, S.length, encTask.row S⟩ : Sl).okx σ n)
    (k : Int) (hk : k ≤ 1000) {K : AV → List AB → Prop}
    (hK : ∀ (X : List Sec) (cap : Nat) (p' : Int), p ≤ p' → p' ≤ p + 60 → X.length ≤ 9 → K (.sl σ.length 0 X.length cap) (σ.set n (.rw ty_spec_l20Rd [.sl m o B.length c, .i .i64 p'] 2) ++ [.rw ty_impl_Section (encSec.row X) (cap * 3)])) :
    CallWp Try.prog n_spec_l20Sections [.p n 0, v, .i .i64 k] σ K := by
  refine call_rdr ty_spec_l20Rd h [⟨v, S.length, encTask.row S⟩] (by intro s hs; rw [List.mem_singleton.1 hs]; exact hv) (fun q => [.sl 2 0 S.length (q 2), .i .i64 k]) (SecP p) (fun q => spec_l20Sections0 B p hC hp S hS k hk c (q 2)) ?_ (fun _ _ h => ⟨h.1, .inl rfl, trivial⟩) (fun _ => rfl) ?_
  · rintro x p' τ ⟨_, X, cap, rfl, rfl, _⟩; exact ⟨by simp [plainRw, encSec.row_flat], rfl⟩
  · rintro x p' τ ⟨⟨h1, h2⟩, X, cap, rfl, rfl, h3⟩
    exact hK X cap p' h1 h2 h3

theorem spec_DrawRunResources0 (C : List Nat) (hC : ∀ x ∈ C, x < 256) (c : Nat) (hc : C.length ≤ c) : CallWp Try.prog n_spec_DrawRunResources [.sl 0 0 C.length c] [.ro (encByte.row C)] (fun x σ' => ∃ (S : List Task) (X : List Sec) (L : List Job) (cap cap2 cap' : Nat),
    x = .tup [.sl 1 0 S.length cap, .sl 2 0 X.length cap2, .sl 3 0 L.length cap'] ∧ σ' = [.ro (encByte.row C), .rw ty_impl_Task (encTask.row S) (cap * 3), .rw ty_impl_Section (encSec.row X) (cap2 * 3), .rw ty_impl_Job (encJob.row L) (cap' * 4)] ∧ S.length ≤ 8 ∧ X.length ≤ 9 ∧ L.length ≤ 62) := by
  refine call_spec_DrawRunResources (by simp) ?_
  simp only [c_spec_DrawRunResources, go_sem, Int.reduceToNat, List.take_nil, Nat.zero_mul, Nat.reduceEqDiff, Nat.reduceAdd, Nat.reduceLT, Nat.reduceLeDiff, Nat.reduceMul, ↓reduceIte, reduceCtorEq]
  refine (spec_l20Open0 C c hc).mono ?_
  rintro x σ' _ ⟨rfl, rfl⟩
  simp only [go_sem, Int.reduceToNat, List.take_nil, Nat.zero_mul, Nat.reduceEqDiff, Nat.reduceAdd, Nat.reduceLT, Nat.reduceLeDiff, Nat.reduceMul, ↓reduceIte, reduceCtorEq]
  refine spec_l20Set_ (Rdr.take (τ := [])) (Code.take hC) (by omega) _ (by omega) fun S cap p1 h11 h12 hS8 hS _ => ?_
  simp only [go_sem, Int.reduceToNat, List.take_nil, Nat.zero_mul, Nat.reduceEqDiff, Nat.reduceAdd, Nat.reduceLT, Nat.reduceLeDiff, Nat.reduceMul, ↓reduceIte, reduceCtorEq]
  refine spec_l20Sections_ (Rdr.take (τ := [_])) (Code.take hC) (by omega) ⟨hS8, hS⟩ (Sl.own rfl (by decide)) _ (by omega) fun X cap2 p2 h21 h22 hX9 => ?_
  simp only [go_sem, Int.reduceToNat, List.take_nil, Nat.zero_mul, Nat.reduceEqDiff, Nat.reduceAdd, Nat.reduceLT, Nat.reduceLeDiff, Nat.reduceMul, ↓reduceIte, reduceCtorEq]
  refine spec_SetValid_ (L := S) (by omega) (Rd.own rfl) ?_
  simp only [not_true_eq_false, not_false_eq_true, decide_true, decide_false, Bool.not_true, Bool.not_false, false_implies, true_implies, and_true, true_and, Bool.false_eq_true, Bool.true_eq_false, implies_true, Bool.not_not, Classical.not_not, go_sem, Int.reduceToNat, List.take_nil, Nat.zero_mul, Nat.reduceEqDiff, Nat.reduceAdd, Nat.reduceLT, Nat.reduceLeDiff, Nat.reduceMul, ↓reduceIte, reduceCtorEq]
  refine ⟨fun hv => ?_, fun hv => ?_⟩
  · exact Fin.pick [0, 2, 3, 4] (.tup [.sl 1 0 S.length cap, .sl 2 0 X.length cap2, .sl 3 0 0 0]) [.ro (encByte.row C), .rw ty_impl_Task (encTask.row S) (cap * 3), .rw ty_impl_Section (encSec.row X) (cap2 * 3), .rw ty_impl_Job (encJob.row []) (0 * 4)] ⟨S, X, [], cap, cap2, 0, rfl, rfl, hS8, hX9, by simp⟩
  · refine spec_l20Jobs_ (Rdr.take (τ := [_, _])) (Code.take hC) (by omega) hv (Sl.own rfl (by decide)) _ (by omega) fun L cap' p3 h31 h32 hL62 hL => ?_
    simp only [go_sem, Int.reduceToNat, List.take_nil, Nat.zero_mul, Nat.reduceEqDiff, Nat.reduceAdd, Nat.reduceLT, Nat.reduceLeDiff, Nat.reduceMul, ↓reduceIte, reduceCtorEq]
    exact Fin.pick [0, 2, 3, 4] (.tup [.sl 1 0 S.length cap, .sl 2 0 X.length cap2, .sl 3 0 L.length cap']) _ ⟨S, X, L, cap, cap2, cap', rfl, rfl, hS8, hX9, hL62⟩
end Go.Proofs.Ytnlciginmeebhaa
