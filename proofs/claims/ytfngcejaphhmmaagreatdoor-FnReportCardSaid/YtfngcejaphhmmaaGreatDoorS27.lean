import Derived.Test.YtfngcejaphhmmaaGreatDoorS26
import Derived.Test.YtfngcejaphhmmaaGreatDoorS1
namespace Go.Proofs.YtfngcejaphhmmaaGreatDoor
open Go.Abs Go.Ds
set_option linter.unusedSimpArgs false
set_option linter.unusedVariables false
set_option maxRecDepth 20000
set_option maxHeartbeats 1000000
theorem impl_isCores_ (m : Int) {σ : List AB} {K : AV → List AB → Prop} (hk : K (.b (decide (1 ≤ m ∧ m ≤ 5))) σ) : CallWp Tryz.prog n_impl_isCores [.i .i64 m] σ K := by
  refine call_impl_isCores (by simp) ?_
  simp only [c_impl_isCores, not_true_eq_false, not_false_eq_true, decide_true, decide_false, Bool.not_true, Bool.not_false, false_implies, true_implies, and_true, true_and, Bool.false_eq_true, Bool.true_eq_false, implies_true, Bool.not_not, Classical.not_not, go_sem, Int.reduceToNat, List.take_nil, Nat.zero_mul, Nat.reduceEqDiff, Nat.reduceAdd, Nat.reduceLT, Nat.reduceLeDiff, Nat.reduceMul, ↓reduceIte, reduceCtorEq]
  refine impl_in_ _ _ _ ?_
  simp only [not_true_eq_false, not_false_eq_true, decide_true, decide_false, Bool.not_true, Bool.not_false, false_implies, true_implies, and_true, true_and, Bool.false_eq_true, Bool.true_eq_false, implies_true, Bool.not_not, Classical.not_not, go_sem, Int.reduceToNat, List.take_nil, Nat.zero_mul, Nat.reduceEqDiff, Nat.reduceAdd, Nat.reduceLT, Nat.reduceLeDiff, Nat.reduceMul, ↓reduceIte, reduceCtorEq]
  exact Fin.plain hk
def FFI (N : Nat) (S : List Task) (m : Int) (x : AV) (τ : List AB) : Prop := (∃ (A : List Int) (c r : Nat), x = .tup [.sl N 0 A.length c, .b true] ∧ τ = [.rw ty_int (encInt.row A) r] ∧ coresOk S m ∧ FFP S m.toNat true A) ∨
  (x = .tup [.sn, .b false] ∧ τ = [] ∧ (coresOk S m → FFP S m.toNat false []))
theorem FFI.fr {N : Nat} {S : List Task} {m : Int} {x : AV} {τ : List AB} (h : FFI N S m x τ) : τ.all plainRw = true ∧ freshA N x = true := by
  rcases h with ⟨A, c, r, rfl, rfl, _⟩ | ⟨rfl, rfl, _⟩
  · simp [plainRw, encInt.row_flat, freshA, fresh1A, freshC, flat]
  · simp [plainRw, freshA, fresh1A, freshC, flat]
end Go.Proofs.YtfngcejaphhmmaaGreatDoor
