import Derived.Test.YtmphblbpofnpaaaS19
namespace Go.Proofs.Ytmphblbpofnpaaa
open Go.Abs Go.Ds
set_option linter.unusedSimpArgs false
set_option linter.unusedVariables false
set_option maxRecDepth 20000
set_option maxHeartbeats 1000000
theorem spec_l1Gcd_ {a b : Nat} (ha : a ≤ 1000000000) (hb : b ≤ 1000000000) {σ : List AB} {K : AV → List AB → Prop} (hk : K (.i .i64 (Nat.gcd a b : Nat)) σ) : CallWp Try.prog n_spec_l1Gcd [.i .i64 a, .i .i64 b] σ K := by
  refine call_spec_l1Gcd (by simp) ?_
  simp only [c_spec_l1Gcd, not_true_eq_false, not_false_eq_true, decide_true, decide_false, Bool.not_true, Bool.not_false, false_implies, true_implies, and_true, true_and, Bool.false_eq_true, Bool.true_eq_false, implies_true, Bool.not_not, Classical.not_not, go_sem, Int.reduceToNat, List.take_nil, Nat.zero_mul, Nat.reduceEqDiff, Nat.reduceAdd, Nat.reduceLT, Nat.reduceLeDiff, Nat.reduceMul, ↓reduceIte, reduceCtorEq]
  refine loop_intro (fun i : Nat × Nat => ⟨[(0, .i .i64 i.1), (1, .i .i64 i.2)], σ⟩) (fun i => (i.1 ≤ 1000000000 ∧ i.2 ≤ 1000000000) ∧ Nat.gcd i.1 i.2 = Nat.gcd a b) (fun i => i.2) (a, b) ⟨⟨ha, hb⟩, rfl⟩ (Wk.keep (by simp [look_cons])) ?_
  rintro ⟨x, y⟩ ⟨⟨hx, hy⟩, hg⟩
  simp only at hx hy hg
  simp only [l0_spec_l1Gcd, not_true_eq_false, not_false_eq_true, decide_true, decide_false, Bool.not_true, Bool.not_false, false_implies, true_implies, and_true, true_and, Bool.false_eq_true, Bool.true_eq_false, implies_true, Bool.not_not, Classical.not_not, go_sem, Int.reduceToNat, List.take_nil, Nat.zero_mul, Nat.reduceEqDiff, Nat.reduceAdd, Nat.reduceLT, Nat.reduceLeDiff, Nat.reduceMul, ↓reduceIte, reduceCtorEq]
  refine ⟨fun hne => ⟨by omega, (y, x % y), ⟨⟨⟨hy, ?_⟩, ?_⟩, Nat.mod_lt _ (by omega)⟩, ?_⟩, fun he => ?_⟩
  · have := Nat.mod_lt x (show y > 0 by omega); simp only; omega
  · simp only; rw [gcd_step]; exact hg
  · rw [show ((x : Nat) : Int).tmod (y : Nat) = ((x % y : Nat) : Int) from rfl]
    exact Wk.keep (by simp [look_cons])
  · have h0 : y = 0 := by omega
    subst h0
    rw [Nat.gcd_zero_right] at hg
    rw [hg]
    exact Fin.plain hk
end Go.Proofs.Ytmphblbpofnpaaa
