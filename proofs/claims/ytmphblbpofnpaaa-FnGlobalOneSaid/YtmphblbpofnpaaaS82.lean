import Derived.Test.YtmphblbpofnpaaaSH
import Derived.Test.YtmphblbpofnpaaaE7
import Derived.Test.YtmphblbpofnpaaaF2
import Derived.Test.YtmphblbpofnpaaaD4
namespace Go.Proofs.Ytmphblbpofnpaaa
open Go.Abs Go.Ds
set_option linter.unusedSimpArgs false
set_option linter.unusedVariables false
set_option maxRecDepth 20000
set_option maxHeartbeats 2000000
theorem GlobAns.data {σ : List AB} {x : AV} {R : List (List Int)} {F : List Int} (h : GlobAns σ x R F) : x.data = true := by
  obtain ⟨v1, v2, rfl, r1, r2⟩ := h
  simp only [r1.data, r2.data, not_true_eq_false, not_false_eq_true, decide_true, decide_false, Bool.not_true, Bool.not_false, false_implies, true_implies, and_true, true_and, Bool.false_eq_true, Bool.true_eq_false, implies_true, Bool.not_not, Classical.not_not, go_sem, Int.reduceToNat, List.take_nil, Nat.zero_mul, Nat.reduceEqDiff, Nat.reduceAdd, Nat.reduceLT, Nat.reduceLeDiff, Nat.reduceMul, ↓reduceIte, reduceCtorEq]
theorem GlobAns.none {σ : List AB} (h : 0 < σ.length) : GlobAns σ (.agg [.sn, .sn]) [] [] := ⟨_, _, rfl, .inr ⟨rfl, rfl, h⟩, .inr ⟨rfl, rfl, h⟩⟩
end Go.Proofs.Ytmphblbpofnpaaa
