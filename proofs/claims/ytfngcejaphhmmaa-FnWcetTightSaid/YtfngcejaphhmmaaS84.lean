import Derived.Test.YtfngcejaphhmmaaS1
import Derived.Test.YtfngcejaphhmmaaM50
namespace Go.Proofs.Ytfngcejaphhmmaa
open Go.Abs Go.Ds
set_option linter.unusedSimpArgs false
set_option linter.unusedVariables false
set_option maxRecDepth 20000
set_option maxHeartbeats 2000000
def encNd : Enc Nd := ⟨fun n => [.i .i64 n.K, .i .i64 n.C, .i .i64 n.A, .i .i64 n.B, .i .i64 n.Bd], 5, fun _ => rfl, fun _ => rfl⟩
theorem lenN (L : List Nd) : (encNd.row L).length = L.length * 5 := encNd.row_length L
theorem gN_eq {L : List Nd} {k : Nat} (h : k < L.length) : gN L k = L[k]'h := by simp [gN, List.getD_eq_getElem?_getD, h]
theorem winN {L : List Nd} {k : Nat} (h : k < L.length) : win (encNd.row L) (k * 5) 5 = encNd.f (gN L k) := by rw [gN_eq h]; exact encNd.win L k h
theorem encN (n : Nd) : encNd.f n = [.i .i64 n.K, .i .i64 n.C, .i .i64 n.A, .i .i64 n.B, .i .i64 n.Bd] := rfl
theorem takeN (L : List Nd) : (encNd.row L).take (L.length * 5) = encNd.row L := List.take_of_length_le (by rw [lenN]; omega)
theorem nd_eq (n : Nd) (a b c d e : Int) : ((⟨a, b, c, d, e⟩ : Nd) = n) ↔ (a = n.K ∧ b = n.C ∧ c = n.A ∧ d = n.B ∧ e = n.Bd) := by cases n; simp
theorem nd_aeq (m n : Nd) : aeq (encNd.f m) (encNd.f n) = decide (m = n) := by
  cases m; cases n
  simp only [encN, aeq, Nd.mk.injEq, Bool.decide_and, Bool.and_true]
theorem dec_and {p q r : Prop} [Decidable p] [Decidable q] [Decidable r] (h : (p ∧ q) ↔ r) : (decide p && decide q) = decide r := by
  rw [← Bool.decide_and]; exact decide_eq_decide.2 h
theorem dec_no {q r : Prop} [Decidable q] [Decidable r] (h : ¬ r) : (false && decide q) = decide r := by
  rw [Bool.false_and]; exact (decide_eq_false h).symm
theorem impl_nodeValid0 (n : Nd) (k : Nat) (hk' : k ≤ 12) : CallWp Try.prog n_impl_nodeValid [.agg (encNd.f n), .i .i64 k] [] (fun x σ => x = .b (decide (ndOk n k)) ∧ σ = []) := by
  refine call_impl_nodeValid (by simp) ?_
  simp only [c_impl_nodeValid, encN, not_true_eq_false, not_false_eq_true, decide_true, decide_false, Bool.not_true, Bool.not_false, false_implies, true_implies, and_true, true_and, Bool.false_eq_true, Bool.true_eq_false, implies_true, Bool.not_not, Classical.not_not, go_sem, Int.reduceToNat, List.take_nil, Nat.zero_mul, Nat.reduceEqDiff, Nat.reduceAdd, Nat.reduceLT, Nat.reduceLeDiff, Nat.reduceMul, ↓reduceIte, reduceCtorEq]
  refine ⟨by omega, onCall.by (impl_in_ _ _ _ ⟨rfl, rfl⟩) ?_⟩
  simp only [not_true_eq_false, not_false_eq_true, decide_true, decide_false, Bool.not_true, Bool.not_false, false_implies, true_implies, and_true, true_and, Bool.false_eq_true, Bool.true_eq_false, implies_true, Bool.not_not, Classical.not_not, go_sem, Int.reduceToNat, List.take_nil, Nat.zero_mul, Nat.reduceEqDiff, Nat.reduceAdd, Nat.reduceLT, Nat.reduceLeDiff, Nat.reduceMul, ↓reduceIte, reduceCtorEq]
  refine ⟨by omega, onCall.by (impl_in_ _ _ _ ⟨rfl, rfl⟩) ?_⟩
  simp only [not_true_eq_false, not_false_eq_true, decide_true, decide_false, Bool.not_true, Bool.not_false, false_implies, true_implies, and_true, true_and, Bool.false_eq_true, Bool.true_eq_false, implies_true, Bool.not_not, Classical.not_not, go_sem, Int.reduceToNat, List.take_nil, Nat.zero_mul, Nat.reduceEqDiff, Nat.reduceAdd, Nat.reduceLT, Nat.reduceLeDiff, Nat.reduceMul, ↓reduceIte, reduceCtorEq]
  refine impl_in_ _ _ _ ?_
  simp only [not_true_eq_false, not_false_eq_true, decide_true, decide_false, Bool.not_true, Bool.not_false, false_implies, true_implies, and_true, true_and, Bool.false_eq_true, Bool.true_eq_false, implies_true, Bool.not_not, Classical.not_not, go_sem, Int.reduceToNat, List.take_nil, Nat.zero_mul, Nat.reduceEqDiff, Nat.reduceAdd, Nat.reduceLT, Nat.reduceLeDiff, Nat.reduceMul, ↓reduceIte, reduceCtorEq]
  refine seq_join (fun i : Bool × Nd => ⟨[(9, .b i.1), (5, .p 1 0), (2, .p 0 0)], [.rw ty_impl_Node [.i .i64 n.K, .i .i64 n.C, .i .i64 n.A, .i .i64 n.B, .i .i64 n.Bd] 5, .rw ty_impl_Node [.i .i64 i.2.K, .i .i64 i.2.C, .i .i64 i.2.A, .i .i64 i.2.B, .i .i64 i.2.Bd] 5]⟩) (fun i => (i.1 && decide (i.2 = n)) = decide (ndOk n k)) ?_ fun i hi => ?_
  · simp only [not_true_eq_false, not_false_eq_true, decide_true, decide_false, Bool.not_true, Bool.not_false, false_implies, true_implies, and_true, true_and, Bool.false_eq_true, Bool.true_eq_false, implies_true, Bool.not_not, Classical.not_not, go_sem, Int.reduceToNat, List.take_nil, Nat.zero_mul, Nat.reduceEqDiff, Nat.reduceAdd, Nat.reduceLT, Nat.reduceLeDiff, Nat.reduceMul, ↓reduceIte, reduceCtorEq]
    refine ⟨fun h1 => ?_, fun h1 => ?_⟩
    · exact kJ_intro (decide (1 ≤ n.C ∧ n.C ≤ 9), ⟨n.K, n.C, 0, 0, 0⟩) (dec_and (by rw [nd_eq]; unfold ndOk; omega)) (Wk.pick [0, 1])
    · refine ⟨fun h2 => ?_, fun h2 => ?_⟩
      · refine ⟨fun h3 => ?_, fun h3 => ?_⟩
        · exact kJ_intro (decide (0 ≤ n.B ∧ n.B ≤ (k : Int) - 1), ⟨n.K, 0, n.A, n.B, 0⟩) (dec_and (by rw [nd_eq]; unfold ndOk; omega)) (Wk.pick [0, 1])
        · exact kJ_intro (false, ⟨n.K, 0, n.A, n.B, 0⟩) (dec_no (by unfold ndOk; omega)) (Wk.pick [0, 1])
      · refine ⟨fun h2 => ?_, fun h2 => ⟨fun h3 => ?_, fun h3 => ?_⟩⟩
        · refine ⟨fun h3 => ⟨fun h4 => ?_, fun h4 => ?_⟩, fun h3 => ?_⟩
          · exact kJ_intro (decide (0 ≤ n.B ∧ n.B ≤ (k : Int) - 1), ⟨n.K, n.C, n.A, n.B, 0⟩) (dec_and (by rw [nd_eq]; unfold ndOk; omega)) (Wk.pick [0, 1])
          · exact kJ_intro (false, ⟨n.K, n.C, n.A, n.B, 0⟩) (dec_no (by unfold ndOk; omega)) (Wk.pick [0, 1])
          · exact kJ_intro (false, ⟨n.K, n.C, n.A, n.B, 0⟩) (dec_no (by unfold ndOk; omega)) (Wk.pick [0, 1])
        · refine ⟨fun h4 => ⟨fun h5 => ?_, fun h5 => ?_⟩, fun h4 => ?_⟩
          · refine impl_in_ _ _ _ ?_
            simp only [not_true_eq_false, not_false_eq_true, decide_true, decide_false, Bool.not_true, Bool.not_false, false_implies, true_implies, and_true, true_and, Bool.false_eq_true, Bool.true_eq_false, implies_true, Bool.not_not, Classical.not_not, go_sem, Int.reduceToNat, List.take_nil, Nat.zero_mul, Nat.reduceEqDiff, Nat.reduceAdd, Nat.reduceLT, Nat.reduceLeDiff, Nat.reduceMul, ↓reduceIte, reduceCtorEq]
            exact kJ_intro (decide (0 ≤ n.Bd ∧ n.Bd ≤ 4), ⟨n.K, n.C, n.A, 0, n.Bd⟩) (dec_and (by rw [nd_eq]; unfold ndOk; omega)) (Wk.pick [0, 1])
          · exact kJ_intro (false, ⟨n.K, n.C, n.A, 0, n.Bd⟩) (dec_no (by unfold ndOk; omega)) (Wk.pick [0, 1])
          · exact kJ_intro (false, ⟨n.K, n.C, n.A, 0, n.Bd⟩) (dec_no (by unfold ndOk; omega)) (Wk.pick [0, 1])
        · exact kJ_intro (false, ⟨n.K, 0, 0, 0, 0⟩) (dec_no (by unfold ndOk; omega)) (Wk.pick [0, 1])
  · have e := nd_aeq i.2 n
    simp only [encN] at e
    simp only [not_true_eq_false, not_false_eq_true, decide_true, decide_false, Bool.not_true, Bool.not_false, false_implies, true_implies, and_true, true_and, Bool.false_eq_true, Bool.true_eq_false, implies_true, Bool.not_not, Classical.not_not, go_sem, Int.reduceToNat, List.take_nil, Nat.zero_mul, Nat.reduceEqDiff, Nat.reduceAdd, Nat.reduceLT, Nat.reduceLeDiff, Nat.reduceMul, ↓reduceIte, reduceCtorEq]
    rw [e]
    cases hb : i.1
    · rw [hb] at hi
      simp only [not_true_eq_false, not_false_eq_true, decide_true, decide_false, Bool.not_true, Bool.not_false, false_implies, true_implies, and_true, true_and, Bool.false_eq_true, Bool.true_eq_false, implies_true, Bool.not_not, Classical.not_not, go_sem, Int.reduceToNat, List.take_nil, Nat.zero_mul, Nat.reduceEqDiff, Nat.reduceAdd, Nat.reduceLT, Nat.reduceLeDiff, Nat.reduceMul, ↓reduceIte, reduceCtorEq]
      exact Fin.same (by rw [← hi, Bool.false_and])
    · rw [hb] at hi
      simp only [not_true_eq_false, not_false_eq_true, decide_true, decide_false, Bool.not_true, Bool.not_false, false_implies, true_implies, and_true, true_and, Bool.false_eq_true, Bool.true_eq_false, implies_true, Bool.not_not, Classical.not_not, go_sem, Int.reduceToNat, List.take_nil, Nat.zero_mul, Nat.reduceEqDiff, Nat.reduceAdd, Nat.reduceLT, Nat.reduceLeDiff, Nat.reduceMul, ↓reduceIte, reduceCtorEq]
      exact ⟨by simp [aeqOk], Fin.same (by rw [← hi, Bool.true_and])⟩
theorem impl_nodeValid_ (n : Nd) (k : Nat) (hk' : k ≤ 12) {σ : List AB} {K : AV → List AB → Prop} (hk : K (.b (decide (ndOk n k))) σ) : CallWp Try.prog n_impl_nodeValid [.agg (encNd.f n), .i .i64 k] σ K :=
  call0 (impl_nodeValid0 n k hk') rfl rfl hk
theorem spec_l8Node0 (n : Nd) (k : Nat) (hk' : k ≤ 12) : CallWp Try.prog n_spec_l8Node [.agg (encNd.f n), .i .i64 k] [] (fun x σ => x = .b (decide (ndOk n k)) ∧ σ = []) := by
  refine call_spec_l8Node (by simp) ?_
  simp only [c_spec_l8Node, encN, not_true_eq_false, not_false_eq_true, decide_true, decide_false, Bool.not_true, Bool.not_false, false_implies, true_implies, and_true, true_and, Bool.false_eq_true, Bool.true_eq_false, implies_true, Bool.not_not, Classical.not_not, go_sem, Int.reduceToNat, List.take_nil, Nat.zero_mul, Nat.reduceEqDiff, Nat.reduceAdd, Nat.reduceLT, Nat.reduceLeDiff, Nat.reduceMul, ↓reduceIte, reduceCtorEq]
  have yes : ∀ {b : Bool} {σ : List AB}, b = decide (ndOk n k) → Fin 0 σ (.b b) (fun x σ => x = .b (decide (ndOk n k)) ∧ σ = []) := fun h => Fin.same (by rw [h])
  have no : ∀ {σ : List AB}, ¬ ndOk n k → Fin 0 σ (.b false) (fun x σ => x = .b (decide (ndOk n k)) ∧ σ = []) := fun h => Fin.same (by rw [decide_eq_false h])
  refine ⟨fun h1 => ?_, fun h1 => ⟨fun h2 => ?_, fun h2 => ⟨fun h3 => ?_, fun h3 => ⟨fun h4 => ?_, fun h4 => ?_⟩⟩⟩⟩
  all_goals
    repeat' first
      | (refine yes ?_; exact decide_eq_decide.2 (by unfold ndOk; omega))
      | (refine no ?_; unfold ndOk; omega)
      | (refine spec_l1In_ _ _ _ ?_; simp only [not_true_eq_false, not_false_eq_true, decide_true, decide_false, Bool.not_true, Bool.not_false, false_implies, true_implies, and_true, true_and, Bool.false_eq_true, Bool.true_eq_false, implies_true, Bool.not_not, Classical.not_not, go_sem, Int.reduceToNat, List.take_nil, Nat.zero_mul, Nat.reduceEqDiff, Nat.reduceAdd, Nat.reduceLT, Nat.reduceLeDiff, Nat.reduceMul, ↓reduceIte, reduceCtorEq])
      | refine ⟨fun _ => ?_, fun _ => ?_⟩
      | refine ⟨by omega, ?_⟩
theorem spec_l8Node_ (n : Nd) (k : Nat) (hk' : k ≤ 12) {σ : List AB} {K : AV → List AB → Prop} (hk : K (.b (decide (ndOk n k))) σ) : CallWp Try.prog n_spec_l8Node [.agg (encNd.f n), .i .i64 k] σ K :=
  call0 (spec_l8Node0 n k hk') rfl rfl hk
end Go.Proofs.Ytfngcejaphhmmaa
