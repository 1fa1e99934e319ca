import Derived.Test.YtmphblbpofnpaaaS2
namespace Go.Proofs.Ytmphblbpofnpaaa
open Go.Abs Go.Ds
set_option linter.unusedSimpArgs false
set_option linter.unusedVariables false
set_option maxRecDepth 20000
theorem impl_newMachine_ {σ : List AB} {j len c : Nat} {K : AV → List AB → Prop} (hl : len ≤ 1000000) (hk : K (.p (σ.length + 1) 0) (σ ++ [.rw ty_int (encInt.row (List.replicate len 0)) len, .rw ty_impl_machine [.sl j 0 len c, .sl σ.length 0 len len, .i .i64 0] 3])) : CallWp Try.prog n_impl_newMachine [.sl j 0 len c] σ K := by
  refine call_impl_newMachine (by simp) ?_
  simp only [c_impl_newMachine, List.append_assoc, not_true_eq_false, not_false_eq_true, decide_true, decide_false, Bool.not_true, Bool.not_false, false_implies, true_implies, and_true, true_and, Bool.false_eq_true, Bool.true_eq_false, implies_true, Bool.not_not, Classical.not_not, go_sem, Int.reduceToNat, List.take_nil, Nat.zero_mul, Nat.reduceEqDiff, Nat.reduceAdd, Nat.reduceLT, Nat.reduceLeDiff, Nat.reduceMul, ↓reduceIte, reduceCtorEq]
  rw [show rep len [AV.i .i64 0] = encInt.row (List.replicate len 0) from encInt.rep 0 _]
  exact ⟨by omega, Fin.plain hk⟩
end Go.Proofs.Ytmphblbpofnpaaa
