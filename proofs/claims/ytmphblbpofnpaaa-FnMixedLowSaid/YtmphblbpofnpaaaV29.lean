import Derived.Test.YtmphblbpofnpaaaS49
import Derived.Test.YtmphblbpofnpaaaS47
import Derived.Test.YtmphblbpofnpaaaMX
import Derived.Test.YtmphblbpofnpaaaE7
import Derived.Test.YtmphblbpofnpaaaD4
import Derived.Test.YtmphblbpofnpaaaV1
namespace Go.Proofs.Ytmphblbpofnpaaa
open Go.Abs Go.Ds
set_option linter.unusedSimpArgs false
set_option linter.unusedVariables false
set_option maxRecDepth 20000
set_option maxHeartbeats 4000000
theorem laws_sameMixed_ {σ : List AB} {x1 y1 x2 y2 : AV} {s1 s2 : Int} {X1 Y1 X2 Y2 : List Int} (h1 : Rd encInt σ x1 X1) (h2 : Rd encInt σ y1 Y1) (h3 : Rd encInt σ x2 X2) (h4 : Rd encInt σ y2 Y2) (l1 : X1.length ≤ 1000000) (l2 : Y1.length ≤ 1000000)
    {K : AV → List AB → Prop} (hk : K (.b (decide ((X1 = X2 ∧ Y1 = Y2) ∧ s1 = s2))) σ) : CallWp Try.prog n_laws_sameMixed [.agg [x1, y1, .i .i64 s1], .agg [x2, y2, .i .i64 s2]] σ K := by
  refine callC_laws_sameMixed (by simp) fun hC hA => ?_
  have d1 := h1.data
  have d2 := h2.data
  have d3 := h3.data
  have d4 := h4.data
  simp only [c_laws_sameMixed, List.append_assoc, at_new, at_new0, set_new, set_new0, d1, d2, d3, d4, not_true_eq_false, not_false_eq_true, decide_true, decide_false, Bool.not_true, Bool.not_false, false_implies, true_implies, and_true, true_and, Bool.false_eq_true, Bool.true_eq_false, implies_true, Bool.not_not, Classical.not_not, go_sem, Int.reduceToNat, List.take_nil, Nat.zero_mul, Nat.reduceEqDiff, Nat.reduceAdd, Nat.reduceLT, Nat.reduceLeDiff, Nat.reduceMul, ↓reduceIte, reduceCtorEq]
  have go : ∀ {τ : List AB} {v u : AV} {L M : List Int}, Rd encInt σ v L → Rd encInt σ u M → L.length ≤ 1000000 → ∀ {K : AV → List AB → Prop}, K (.b (decide (L = M))) (σ ++ τ) → CallWp Try.prog n_laws_sameInts [v, u] (σ ++ τ) K := fun a1 a2 a3 K hk => laws_sameInts_ (by omega) a1.app a2.app hk
  refine go h1 h3 l1 ?_
  simp only [List.append_assoc, at_new, at_new0, set_new, set_new0, d1, d2, d3, d4, not_true_eq_false, not_false_eq_true, decide_true, decide_false, Bool.not_true, Bool.not_false, false_implies, true_implies, and_true, true_and, Bool.false_eq_true, Bool.true_eq_false, implies_true, Bool.not_not, Classical.not_not, go_sem, Int.reduceToNat, List.take_nil, Nat.zero_mul, Nat.reduceEqDiff, Nat.reduceAdd, Nat.reduceLT, Nat.reduceLeDiff, Nat.reduceMul, ↓reduceIte, reduceCtorEq]
  by_cases e : X1 = X2
  · simp only [e, decide_true, true_and, d1, d2, d3, d4, at_new, at_new0, List.append_assoc, not_true_eq_false, not_false_eq_true, decide_true, decide_false, Bool.not_true, Bool.not_false, false_implies, true_implies, and_true, true_and, Bool.false_eq_true, Bool.true_eq_false, implies_true, Bool.not_not, Classical.not_not, go_sem, Int.reduceToNat, List.take_nil, Nat.zero_mul, Nat.reduceEqDiff, Nat.reduceAdd, Nat.reduceLT, Nat.reduceLeDiff, Nat.reduceMul, ↓reduceIte, reduceCtorEq] at hk ⊢
    refine go h2 h4 l2 ?_
    by_cases e2 : Y1 = Y2
    · simp only [e2, decide_true, true_and, d1, d2, d3, d4, at_new, at_new0, List.append_assoc, not_true_eq_false, not_false_eq_true, decide_true, decide_false, Bool.not_true, Bool.not_false, false_implies, true_implies, and_true, true_and, Bool.false_eq_true, Bool.true_eq_false, implies_true, Bool.not_not, Classical.not_not, go_sem, Int.reduceToNat, List.take_nil, Nat.zero_mul, Nat.reduceEqDiff, Nat.reduceAdd, Nat.reduceLT, Nat.reduceLeDiff, Nat.reduceMul, ↓reduceIte, reduceCtorEq] at hk ⊢
      exact Fin.drop hC (Nat.le_refl _) rfl hk
    · simp only [e2, decide_false, false_and, d1, d2, d3, d4, at_new, at_new0, List.append_assoc, not_true_eq_false, not_false_eq_true, decide_true, decide_false, Bool.not_true, Bool.not_false, false_implies, true_implies, and_true, true_and, Bool.false_eq_true, Bool.true_eq_false, implies_true, Bool.not_not, Classical.not_not, go_sem, Int.reduceToNat, List.take_nil, Nat.zero_mul, Nat.reduceEqDiff, Nat.reduceAdd, Nat.reduceLT, Nat.reduceLeDiff, Nat.reduceMul, ↓reduceIte, reduceCtorEq] at hk ⊢
      exact Fin.drop hC (Nat.le_refl _) rfl hk
  · simp only [e, decide_false, false_and, d1, d2, d3, d4, not_true_eq_false, not_false_eq_true, decide_true, decide_false, Bool.not_true, Bool.not_false, false_implies, true_implies, and_true, true_and, Bool.false_eq_true, Bool.true_eq_false, implies_true, Bool.not_not, Classical.not_not, go_sem, Int.reduceToNat, List.take_nil, Nat.zero_mul, Nat.reduceEqDiff, Nat.reduceAdd, Nat.reduceLT, Nat.reduceLeDiff, Nat.reduceMul, ↓reduceIte, reduceCtorEq] at hk ⊢
    exact Fin.drop hC (Nat.le_refl _) rfl hk
theorem scale_any (S : List MTask) : ∃ nu de, scaleR S = some (nu, de) ∨ scaleR S = none := by
  cases h : scaleR S with
  | none => exact ⟨0, 0, .inr rfl⟩
  | some p => exact ⟨p.1, p.2, .inl rfl⟩
end Go.Proofs.Ytmphblbpofnpaaa
