/- The law FnMinCores answers true: over the abstract heap. -/
import Derived.Test.YtfngcejaphhmmaaS29
import Derived.Test.YtfngcejaphhmmaaS31
import Derived.Test.YtfngcejaphhmmaaS32
namespace Go.Proofs.Ytfngcejaphhmmaa
open Go.Abs Go.Ds
set_option linter.unusedSimpArgs false
set_option linter.unusedVariables false
set_option maxRecDepth 20000
set_option maxHeartbeats 2000000

theorem part_all {S : List Task} (hS : setOk S) {m : Int} (hm : (S.length : Int) ≤ m) : ∃ A, part S m = some A := dfs_iff.2 (feasA_all hS (m := m.toNat) (by omega))
theorem part_one {S : List Task} (hS : setOk S) : (∃ A, part S 1 = some A) ↔ feas S := by
  unfold part
  exact dfs_iff.trans feasA_one

theorem util_le {S : List Task} (hS : setOk S) {m a b : Int} (hm : 0 ≤ m) {A : List Int} (hA : part S m = some A) (h : UtilP S a b) : a ≤ m * b := by
  obtain ⟨g, h1, h2, h3, _, _⟩ := h
  have h4 := load_le hS (dfs_feas hA)
  rw [← h2, ← h3, Int.toNat_of_nonneg hm] at h4
  rw [← Int.mul_assoc] at h4
  exact Int.le_of_mul_le_mul_right h4 (by omega)

theorem laws_FnMinCores0 (C : List Nat) (hC : ∀ x ∈ C, x < 256) (c : Nat) (hc : C.length ≤ c) : CallWp Try.prog n_laws_FnMinCores [.sl 0 0 C.length c] [.ro (encByte.row C)] (fun x _ => x = .b true) := by
  refine call_laws_FnMinCores (by simp) ?_
  simp only [c_laws_FnMinCores, go_sem, Int.reduceToNat, List.take_nil, Nat.zero_mul, Nat.reduceEqDiff, Nat.reduceAdd, Nat.reduceLT, Nat.reduceLeDiff, Nat.reduceMul, ↓reduceIte, reduceCtorEq]
  refine ⟨fun h => Fin.plain rfl, fun h => ?_⟩
  refine (spec_DrawMinCores0 C hC c hc).mono ?_
  rintro x σ' _ ⟨S, cap, rfl, rfl, hS8⟩
  simp only [go_sem, Int.reduceToNat, List.take_nil, Nat.zero_mul, Nat.reduceEqDiff, Nat.reduceAdd, Nat.reduceLT, Nat.reduceLeDiff, Nat.reduceMul, ↓reduceIte, reduceCtorEq]
  refine impl_MinCores_ (S := S) (by omega) (Rd.own rfl) fun r hr => ?_
  simp only [not_true_eq_false, not_false_eq_true, decide_true, decide_false, Bool.not_true, Bool.not_false, false_implies, true_implies, and_true, true_and, Bool.false_eq_true, Bool.true_eq_false, implies_true, Bool.not_not, Classical.not_not, go_sem, Int.reduceToNat, List.take_nil, Nat.zero_mul, Nat.reduceEqDiff, Nat.reduceAdd, Nat.reduceLT, Nat.reduceLeDiff, Nat.reduceMul, ↓reduceIte, reduceCtorEq]
  refine spec_MinCores_ (S := S) (by omega) (Rd.own rfl) fun r' hr' => ?_
  obtain rfl := hr.same hr'
  simp only [not_true_eq_false, not_false_eq_true, decide_true, decide_false, Bool.not_true, Bool.not_false, false_implies, true_implies, and_true, true_and, Bool.false_eq_true, Bool.true_eq_false, implies_true, Bool.not_not, Classical.not_not, go_sem, Int.reduceToNat, List.take_nil, Nat.zero_mul, Nat.reduceEqDiff, Nat.reduceAdd, Nat.reduceLT, Nat.reduceLeDiff, Nat.reduceMul, ↓reduceIte, reduceCtorEq]
  refine spec_SetValid_ (L := S) (by omega) (Rd.own rfl) ?_
  rcases hr with ⟨hS, rfl⟩ | ⟨hS, h1, h2, h3⟩
  · simp only [hS, not_true_eq_false, not_false_eq_true, decide_true, decide_false, Bool.not_true, Bool.not_false, false_implies, true_implies, and_true, true_and, Bool.false_eq_true, Bool.true_eq_false, implies_true, Bool.not_not, Classical.not_not, go_sem, Int.reduceToNat, List.take_nil, Nat.zero_mul, Nat.reduceEqDiff, Nat.reduceAdd, Nat.reduceLT, Nat.reduceLeDiff, Nat.reduceMul, ↓reduceIte, reduceCtorEq]
    refine laws_alive_ ?_
    simp only [not_true_eq_false, not_false_eq_true, decide_true, decide_false, Bool.not_true, Bool.not_false, false_implies, true_implies, and_true, true_and, Bool.false_eq_true, Bool.true_eq_false, implies_true, Bool.not_not, Classical.not_not, go_sem, Int.reduceToNat, List.take_nil, Nat.zero_mul, Nat.reduceEqDiff, Nat.reduceAdd, Nat.reduceLT, Nat.reduceLeDiff, Nat.reduceMul, ↓reduceIte, reduceCtorEq]
    exact Fin.plain rfl
  · have hp : ∃ A, part S r = some A := by
      by_cases h5 : r < 5
      · exact h3 h5
      · exact part_all hS (by have := hS.1; omega)
    have hS5 := hS.1
    have hone : r = 1 ↔ feas S := by
      rw [← part_one hS]
      constructor
      · rintro rfl; exact hp
      · rintro ⟨A, hA⟩
        rcases Int.lt_or_le 1 r with h | h
        · rw [h2 1 (by omega) h] at hA; cases hA
        · omega
    have hlen : r ≤ max 1 (S.length : Int) := by
      rcases Int.lt_or_le (max 1 (S.length : Int)) r with h | h
      · obtain ⟨A, hA⟩ := part_all hS (m := max 1 (S.length : Int)) (by omega)
        rw [h2 _ (by omega) h] at hA; cases hA
      · exact h
    simp only [hS, not_true_eq_false, not_false_eq_true, decide_true, decide_false, Bool.not_true, Bool.not_false, false_implies, true_implies, and_true, true_and, Bool.false_eq_true, Bool.true_eq_false, implies_true, Bool.not_not, Classical.not_not, go_sem, Int.reduceToNat, List.take_nil, Nat.zero_mul, Nat.reduceEqDiff, Nat.reduceAdd, Nat.reduceLT, Nat.reduceLeDiff, Nat.reduceMul, ↓reduceIte, reduceCtorEq]
    refine impl_Utilization_ hS (Rd.own rfl) fun a b hu => ?_
    simp only [not_true_eq_false, not_false_eq_true, decide_true, decide_false, Bool.not_true, Bool.not_false, false_implies, true_implies, and_true, true_and, Bool.false_eq_true, Bool.true_eq_false, implies_true, Bool.not_not, Classical.not_not, go_sem, Int.reduceToNat, List.take_nil, Nat.zero_mul, Nat.reduceEqDiff, Nat.reduceAdd, Nat.reduceLT, Nat.reduceLeDiff, Nat.reduceMul, ↓reduceIte, reduceCtorEq]
    refine impl_Partition_ (S := S) (by omega) (Rd.own rfl) fun x τ hx => ?_
    rcases hx with ⟨A, c3, r3, rfl, rfl, hok, hA⟩ | ⟨rfl, rfl, hno⟩
    rotate_left
    · obtain ⟨A, hA⟩ := hp
      rw [hno ⟨hS, h1⟩] at hA; cases hA
    have hul := util_le hS (by omega) hA hu
    have hub := hu
    obtain ⟨g, _, _, _, hu1, hu2⟩ := hub
    simp only [not_true_eq_false, not_false_eq_true, decide_true, decide_false, Bool.not_true, Bool.not_false, false_implies, true_implies, and_true, true_and, Bool.false_eq_true, Bool.true_eq_false, implies_true, Bool.not_not, Classical.not_not, go_sem, Int.reduceToNat, List.take_nil, Nat.zero_mul, Nat.reduceEqDiff, Nat.reduceAdd, Nat.reduceLT, Nat.reduceLeDiff, Nat.reduceMul, ↓reduceIte, reduceCtorEq]
    have hw0 : 0 ≤ r * b := Int.mul_nonneg (by omega) (by omega)
    have hw1 : r * b ≤ 5 * 27720 := Int.mul_le_mul (by omega) (by omega) (by omega) (by omega)
    generalize r * b = w at *
    refine ⟨fun _ => ⟨by omega, fun _ => ?_, fun h => absurd h (by omega)⟩, fun h => absurd h (by omega)⟩
    refine impl_EdfFeasible_ (S := S) (by omega) (Rd.own rfl) ?_
    rw [show decide (feas S) = decide (r = 1) from decide_eq_decide.2 hone.symm]
    by_cases hr1 : r = 1
    · simp only [hr1, not_true_eq_false, not_false_eq_true, decide_true, decide_false, Bool.not_true, Bool.not_false, false_implies, true_implies, and_true, true_and, Bool.false_eq_true, Bool.true_eq_false, implies_true, Bool.not_not, Classical.not_not, go_sem, Int.reduceToNat, List.take_nil, Nat.zero_mul, Nat.reduceEqDiff, Nat.reduceAdd, Nat.reduceLT, Nat.reduceLeDiff, Nat.reduceMul, ↓reduceIte, reduceCtorEq]
      exact Fin.plain rfl
    · simp only [hr1, not_true_eq_false, not_false_eq_true, decide_true, decide_false, Bool.not_true, Bool.not_false, false_implies, true_implies, and_true, true_and, Bool.false_eq_true, Bool.true_eq_false, implies_true, Bool.not_not, Classical.not_not, go_sem, Int.reduceToNat, List.take_nil, Nat.zero_mul, Nat.reduceEqDiff, Nat.reduceAdd, Nat.reduceLT, Nat.reduceLeDiff, Nat.reduceMul, ↓reduceIte, reduceCtorEq]
      refine ⟨by omega, ?_⟩
      refine impl_Partition_ (S := S) (by omega) (Rd.own rfl) fun x τ hx => ?_
      rcases hx with ⟨A', c4, r4, rfl, rfl, hok', hA'⟩ | ⟨rfl, rfl, hno⟩
      · rw [h2 (r - 1) (by omega) (by omega)] at hA'; cases hA'
      · simp only [not_true_eq_false, not_false_eq_true, decide_true, decide_false, Bool.not_true, Bool.not_false, false_implies, true_implies, and_true, true_and, Bool.false_eq_true, Bool.true_eq_false, implies_true, Bool.not_not, Classical.not_not, go_sem, Int.reduceToNat, List.take_nil, Nat.zero_mul, Nat.reduceEqDiff, Nat.reduceAdd, Nat.reduceLT, Nat.reduceLeDiff, Nat.reduceMul, ↓reduceIte, reduceCtorEq]
        exact Fin.plain (by congr 1; simp only [decide_eq_true_eq]; split <;> omega)
theorem c_FnMinCores (C : List Nat) (c : Nat) (hC : ∀ x ∈ C, x < 256) (_ : C.length * 1 ≤ 140737488351232) (hc : C.length ≤ c) :
    CallWp Try.prog n_laws_FnMinCores [.sl 0 0 C.length c] [.ro (encByte.row C)] (fun x _ => x = .b true) := laws_FnMinCores0 C hC c hc
end Go.Proofs.Ytfngcejaphhmmaa
