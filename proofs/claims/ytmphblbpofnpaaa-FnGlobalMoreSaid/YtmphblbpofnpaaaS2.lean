import Derived.Test.YtmphblbpofnpaaaE2
import Derived.Test.YtmphblbpofnpaaaS1
import Derived.Test.YtmphblbpofnpaaaMM
namespace Go.Proofs.Ytmphblbpofnpaaa
open Go.Abs Go.Ds
set_option linter.unusedSimpArgs false
set_option linter.unusedVariables false
set_option maxRecDepth 20000
/-- Block m is a machine over the jobs L. -/
structure Mach (σ : List AB) (m : Nat) (L : List Job) (done : List Int) (now : Nat) : Prop where
  ex : ∃ j c d c', cellsOf σ m = some [.sl j 0 L.length c, .sl d 0 L.length c', .i .i64 now] ∧ cellsOf σ j = some (encJob.row L) ∧ cellsOf σ d = some (encInt.row done)
  len : done.length = L.length
theorem Mach.app {σ : List AB} {m : Nat} {L : List Job} {done : List Int} {now : Nat} (h : Mach σ m L done now) (τ : List AB) : Mach (σ ++ τ) m L done now := by
  obtain ⟨⟨j, c, d, c', h1, h2, h3⟩, h4⟩ := h
  exact ⟨⟨j, c, d, c', cells_old h1 τ, cells_old h2 τ, cells_old h3 τ⟩, h4⟩
section
variable {σ : List AB} {m : Nat} {L : List Job} {done : List Int} {now : Nat} {K : AV → List AB → Prop}
theorem impl_machine_ready_ (h : Mach σ m L done now) (i : Nat) (hi : i < L.length) (hk : K (.b (readyJ L done now i)) σ) : CallWp Try.prog n_impl_machine_ready [.p m 0, .i .i64 i] σ K := by
  obtain ⟨⟨j, c, d, c', e1, e2, e3⟩, e4⟩ := h
  have hd : i < done.length := by omega
  refine call_impl_machine_ready (by simp) ?_
  have e5 : readyJ L done now i = decide (L[i].R ≤ now ∧ done[i] < L[i].E) := by
    unfold readyJ
    rw [show L.getD i default = L[i] from by simp [List.getD_eq_getElem?_getD, hi], show gI done i = done[i] from by simp [gI, List.getD_eq_getElem?_getD, hd]]
  rw [e5] at hk
  simp only [c_impl_machine_ready, onC_of e1, onC_of e2, onC_of e3, rdJ1 hi, rdJ3 hi, rdI hd, lenJ, lenI, not_true_eq_false, not_false_eq_true, decide_true, decide_false, Bool.not_true, Bool.not_false, false_implies, true_implies, and_true, true_and, Bool.false_eq_true, Bool.true_eq_false, implies_true, Bool.not_not, Classical.not_not, go_sem, Int.reduceToNat, List.take_nil, Nat.zero_mul, Nat.reduceEqDiff, Nat.reduceAdd, Nat.reduceLT, Nat.reduceLeDiff, Nat.reduceMul, ↓reduceIte, reduceCtorEq]
  refine ⟨by omega, by omega, fun h1 => ⟨by omega, by omega, by omega, by omega, Fin.plain ?_⟩, fun h1 => Fin.plain ?_⟩
  · rw [decide_eq_decide.2 (show done[i] < L[i].E ↔ L[i].R ≤ now ∧ done[i] < L[i].E from ⟨fun h => ⟨h1, h⟩, fun h => h.2⟩)]; exact hk
  · rw [show false = decide (L[i].R ≤ now ∧ done[i] < L[i].E) from (decide_eq_false fun h => h1 h.1).symm]; exact hk
end
end Go.Proofs.Ytmphblbpofnpaaa
