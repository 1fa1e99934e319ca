/- What partitions are drawn from. -/
import Derived.Test.YtfngcejaphhmmaaS28
import Derived.Test.YtfngcejaphhmmaaD4
import Derived.Test.YtfngcejaphhmmaaE7
namespace Go.Proofs.Ytfngcejaphhmmaa
open Go.Abs Go.Ds
set_option linter.unusedSimpArgs false
set_option linter.unusedVariables false
set_option maxRecDepth 20000
set_option maxHeartbeats 1000000

theorem spec_l20Cores0 (C : List Nat) (hC : ∀ x ∈ C, x < 256) (c : Nat) (p : Int) (hp : 0 ≤ p ∧ p ≤ 1000000) (S : List Task) (r : Nat) : CallWp Try.prog n_spec_l20Cores [.p 1 0, .i .i64 12] [.ro (encByte.row C), .rw ty_spec_l20Rd [.sl 0 0 (C.take 2000).length c, .i .i64 p] 2, .rw ty_impl_Task (encTask.row S) r]
    (fun x σ' => ∃ m p' : Int, x = .i .i64 m ∧ (-1 ≤ m ∧ m ≤ 6) ∧ σ' = [.ro (encByte.row C), .rw ty_spec_l20Rd [.sl 0 0 (C.take 2000).length c, .i .i64 p'] 2, .rw ty_impl_Task (encTask.row S) r]) := by
  refine call_spec_l20Cores (by simp) ?_
  simp only [c_spec_l20Cores, not_true_eq_false, not_false_eq_true, decide_true, decide_false, Bool.not_true, Bool.not_false, false_implies, true_implies, and_true, true_and, Bool.false_eq_true, Bool.true_eq_false, implies_true, Bool.not_not, Classical.not_not, go_sem, Int.reduceToNat, List.take_nil, Nat.zero_mul, Nat.reduceEqDiff, Nat.reduceAdd, Nat.reduceLT, Nat.reduceLeDiff, Nat.reduceMul, ↓reduceIte, reduceCtorEq]
  refine spec_l20Rd_odd_ (Rdr.take (τ := [_])) (Code.take hC) (by omega) _ (by omega) fun b p1 h1 h2 _ => ?_
  simp only [not_true_eq_false, not_false_eq_true, decide_true, decide_false, Bool.not_true, Bool.not_false, false_implies, true_implies, and_true, true_and, Bool.false_eq_true, Bool.true_eq_false, implies_true, Bool.not_not, Classical.not_not, go_sem, Int.reduceToNat, List.take_nil, Nat.zero_mul, Nat.reduceEqDiff, Nat.reduceAdd, Nat.reduceLT, Nat.reduceLeDiff, Nat.reduceMul, ↓reduceIte, reduceCtorEq]
  refine bc_of (fun hb => ?_) (fun hb => ?_)
  · refine spec_l20Rd_pick_ (Rdr.take (τ := [_, _])) (Code.take hC) (by omega) _ (by omega) fun k g1 g2 _ => ?_
    have g2 := g2 (by omega)
    obtain ⟨k, rfl⟩ := Int.eq_ofNat_of_zero_le g1
    have hk : k = 0 ∨ k = 1 ∨ k = 2 := by omega
    rcases hk with rfl | rfl | rfl
    all_goals
      simp only [rd, not_true_eq_false, not_false_eq_true, decide_true, decide_false, Bool.not_true, Bool.not_false, false_implies, true_implies, and_true, true_and, Bool.false_eq_true, Bool.true_eq_false, implies_true, Bool.not_not, Classical.not_not, go_sem, Int.reduceToNat, List.take_nil, Nat.zero_mul, Nat.reduceEqDiff, Nat.reduceAdd, Nat.reduceLT, Nat.reduceLeDiff, Nat.reduceMul, ↓reduceIte, reduceCtorEq]
    · exact Fin.pick [0, 1, 2] (.i .i64 0) _ ⟨_, _, rfl, by omega, rfl⟩
    · exact Fin.pick [0, 1, 2] (.i .i64 (-1)) _ ⟨_, _, rfl, by omega, rfl⟩
    · exact Fin.pick [0, 1, 2] (.i .i64 6) _ ⟨_, _, rfl, by omega, rfl⟩
  · refine spec_l20Rd_pick_ (Rdr.take (τ := [_])) (Code.take hC) (by omega) _ (by omega) fun k g1 g2 _ => ?_
    have g2 := g2 (by omega)
    simp only [not_true_eq_false, not_false_eq_true, decide_true, decide_false, Bool.not_true, Bool.not_false, false_implies, true_implies, and_true, true_and, Bool.false_eq_true, Bool.true_eq_false, implies_true, Bool.not_not, Classical.not_not, go_sem, Int.reduceToNat, List.take_nil, Nat.zero_mul, Nat.reduceEqDiff, Nat.reduceAdd, Nat.reduceLT, Nat.reduceLeDiff, Nat.reduceMul, ↓reduceIte, reduceCtorEq]
    refine ⟨by omega, Fin.plain ⟨_, _, rfl, by omega, rfl⟩⟩

theorem spec_l20OpenN (C : List Nat) (c : Nat) : CallWp Try.prog n_spec_l20Open [.sl 0 0 C.length c] [.ro (encByte.row C)] (fun x σ' => x = .p 1 0 ∧ σ' = [.ro (encByte.row C), .rw ty_spec_l20Rd [.sl 0 0 (C.take 2000).length c, .i .i64 0] 2]) := by
  refine call_spec_l20Open (by simp) ?_
  simp only [c_spec_l20Open, go_sem, Int.reduceToNat, List.take_nil, Nat.zero_mul, Nat.reduceEqDiff, Nat.reduceAdd, Nat.reduceLT, Nat.reduceLeDiff, Nat.reduceMul, ↓reduceIte, reduceCtorEq]
  refine seq_join (fun _ : Unit => ⟨[(0, .sl 0 0 (C.take 2000).length c)], [.ro (encByte.row C)]⟩) (fun _ => True) ?_ fun _ _ => ?_
  · simp only [go_sem, Int.reduceToNat, List.take_nil, Nat.zero_mul, Nat.reduceEqDiff, Nat.reduceAdd, Nat.reduceLT, Nat.reduceLeDiff, Nat.reduceMul, ↓reduceIte, reduceCtorEq]
    refine ⟨fun h => ⟨by omega, by omega, kJ_intro () trivial ?_⟩, fun h => kJ_intro () trivial ?_⟩
    · have : (C.take 2000).length = 2000 := by rw [List.length_take]; omega
      rw [this]
      exact Wk.pick [0]
    · rw [List.take_of_length_le (by omega)]; exact Wk.pick [0]
  · simp only [go_sem, Int.reduceToNat, List.take_nil, Nat.zero_mul, Nat.reduceEqDiff, Nat.reduceAdd, Nat.reduceLT, Nat.reduceLeDiff, Nat.reduceMul, ↓reduceIte, reduceCtorEq]
    exact Fin.plain ⟨rfl, rfl⟩
theorem spec_DrawFirstFitN (C : List Nat) (hC : ∀ x ∈ C, x < 256) (c : Nat) : CallWp Try.prog n_spec_DrawFirstFit [.sl 0 0 C.length c] [.ro (encByte.row C)] (fun x σ' => ∃ (S : List Task) (cap : Nat) (m : Int),
    x = .tup [.sl 1 0 S.length cap, .i .i64 m] ∧ σ' = [.ro (encByte.row C), .rw ty_impl_Task (encTask.row S) (cap * 3)] ∧ S.length ≤ 8 ∧ -1 ≤ m ∧ m ≤ 6) := by
  refine call_spec_DrawFirstFit (by simp) ?_
  simp only [c_spec_DrawFirstFit, go_sem, Int.reduceToNat, List.take_nil, Nat.zero_mul, Nat.reduceEqDiff, Nat.reduceAdd, Nat.reduceLT, Nat.reduceLeDiff, Nat.reduceMul, ↓reduceIte, reduceCtorEq]
  refine (spec_l20OpenN C c).mono ?_
  rintro x σ' _ ⟨rfl, rfl⟩
  simp only [go_sem, Int.reduceToNat, List.take_nil, Nat.zero_mul, Nat.reduceEqDiff, Nat.reduceAdd, Nat.reduceLT, Nat.reduceLeDiff, Nat.reduceMul, ↓reduceIte, reduceCtorEq]
  refine spec_l20Set_ (Rdr.take (τ := [])) (Code.take hC) (by omega) _ (by omega) fun S cap p1 h11 h12 hS8 hS _ => ?_
  simp only [go_sem, Int.reduceToNat, List.take_nil, Nat.zero_mul, Nat.reduceEqDiff, Nat.reduceAdd, Nat.reduceLT, Nat.reduceLeDiff, Nat.reduceMul, ↓reduceIte, reduceCtorEq]
  refine (spec_l20Cores0 C hC c p1 (by omega) S (cap * 3)).mono ?_
  rintro x σ' _ ⟨m, p', rfl, hm, rfl⟩
  simp only [go_sem, Int.reduceToNat, List.take_nil, Nat.zero_mul, Nat.reduceEqDiff, Nat.reduceAdd, Nat.reduceLT, Nat.reduceLeDiff, Nat.reduceMul, ↓reduceIte, reduceCtorEq]
  exact Fin.pick [0, 2] (.tup [.sl 1 0 S.length cap, .i .i64 m]) _ ⟨S, cap, m, rfl, rfl, hS8, hm⟩
theorem spec_DrawFirstFit0 (C : List Nat) (hC : ∀ x ∈ C, x < 256) (c : Nat) (hc : C.length ≤ c) : CallWp Try.prog n_spec_DrawFirstFit [.sl 0 0 C.length c] [.ro (encByte.row C)] (fun x σ' => ∃ (S : List Task) (cap : Nat) (m : Int),
    x = .tup [.sl 1 0 S.length cap, .i .i64 m] ∧ σ' = [.ro (encByte.row C), .rw ty_impl_Task (encTask.row S) (cap * 3)] ∧ S.length ≤ 8 ∧ -1 ≤ m ∧ m ≤ 6) := spec_DrawFirstFitN C hC c
theorem spec_DrawPartitionN (C : List Nat) (hC : ∀ x ∈ C, x < 256) (c : Nat) : CallWp Try.prog n_spec_DrawPartition [.sl 0 0 C.length c] [.ro (encByte.row C)] (fun x σ' => ∃ (S : List Task) (cap : Nat) (m : Int),
    x = .tup [.sl 1 0 S.length cap, .i .i64 m] ∧ σ' = [.ro (encByte.row C), .rw ty_impl_Task (encTask.row S) (cap * 3)] ∧ S.length ≤ 8 ∧ -1 ≤ m ∧ m ≤ 6) := by
  refine call_spec_DrawPartition (by simp) ?_
  simp only [c_spec_DrawPartition, go_sem, Int.reduceToNat, List.take_nil, Nat.zero_mul, Nat.reduceEqDiff, Nat.reduceAdd, Nat.reduceLT, Nat.reduceLeDiff, Nat.reduceMul, ↓reduceIte, reduceCtorEq]
  refine (spec_DrawFirstFitN C hC c).mono ?_
  rintro x σ' _ ⟨S, cap, m, rfl, rfl, h1, h2⟩
  simp only [go_sem, Int.reduceToNat, List.take_nil, Nat.zero_mul, Nat.reduceEqDiff, Nat.reduceAdd, Nat.reduceLT, Nat.reduceLeDiff, Nat.reduceMul, ↓reduceIte, reduceCtorEq]
  exact Fin.plain ⟨S, cap, m, rfl, rfl, h1, h2⟩
theorem spec_DrawPartition0 (C : List Nat) (hC : ∀ x ∈ C, x < 256) (c : Nat) (hc : C.length ≤ c) : CallWp Try.prog n_spec_DrawPartition [.sl 0 0 C.length c] [.ro (encByte.row C)] (fun x σ' => ∃ (S : List Task) (cap : Nat) (m : Int),
    x = .tup [.sl 1 0 S.length cap, .i .i64 m] ∧ σ' = [.ro (encByte.row C), .rw ty_impl_Task (encTask.row S) (cap * 3)] ∧ S.length ≤ 8 ∧ -1 ≤ m ∧ m ≤ 6) := spec_DrawPartitionN C hC c
theorem spec_DrawPartition_ {C : List Nat} (hC : ∀ x ∈ C, x < 256) {v : AV} {σ : List AB} (h : Rd encByte σ v C) {K : AV → List AB → Prop} (hk : ∀ (S : List Task) (cap : Nat) (m : Int), S.length ≤ 8 → (-1 ≤ m ∧ m ≤ 6) → K (.tup [.sl σ.length 0 S.length cap, .i .i64 m]) (σ ++ [.rw ty_impl_Task (encTask.row S) (cap * 3)])) :
    CallWp Try.prog n_spec_DrawPartition [v] σ K := by
  refine call_news _ (rds1 h.r) (fun c => [.sl 0 0 C.length (c 0)]) (fun x τ => ∃ (S : List Task) (cap : Nat) (m : Int), x = .tup [.sl 1 0 S.length cap, .i .i64 m] ∧ τ = [.rw ty_impl_Task (encTask.row S) (cap * 3)] ∧ S.length ≤ 8 ∧ -1 ≤ m ∧ m ≤ 6) (fun c => (spec_DrawPartitionN C hC (c 0)).mono ?_) ?_ (fun ν c h => ⟨h.1, trivial⟩) (fun _ => rfl) ?_
  · rintro x σ' _ ⟨S, cap, m, rfl, rfl, h1, h2⟩
    exact ⟨_, rfl, S, cap, m, rfl, rfl, h1, h2⟩
  · rintro x τ ⟨S, cap, m, rfl, rfl, _⟩
    simp [plainRw, encTask.row_flat, freshA, fresh1A, freshC, flat]
  · rintro x τ ⟨S, cap, m, rfl, rfl, h1, h2⟩
    exact hk S cap m h1 h2
theorem spec_DrawMinCores0 (C : List Nat) (hC : ∀ x ∈ C, x < 256) (c : Nat) (hc : C.length ≤ c) : CallWp Try.prog n_spec_DrawMinCores [.sl 0 0 C.length c] [.ro (encByte.row C)] (fun x σ' => ∃ (S : List Task) (cap : Nat),
    x = .sl 1 0 S.length cap ∧ σ' = [.ro (encByte.row C), .rw ty_impl_Task (encTask.row S) (cap * 3)] ∧ S.length ≤ 8) := by
  refine call_spec_DrawMinCores (by simp) ?_
  simp only [c_spec_DrawMinCores, go_sem, Int.reduceToNat, List.take_nil, Nat.zero_mul, Nat.reduceEqDiff, Nat.reduceAdd, Nat.reduceLT, Nat.reduceLeDiff, Nat.reduceMul, ↓reduceIte, reduceCtorEq]
  refine (spec_l20Open0 C c hc).mono ?_
  rintro x σ' _ ⟨rfl, rfl⟩
  simp only [go_sem, Int.reduceToNat, List.take_nil, Nat.zero_mul, Nat.reduceEqDiff, Nat.reduceAdd, Nat.reduceLT, Nat.reduceLeDiff, Nat.reduceMul, ↓reduceIte, reduceCtorEq]
  refine spec_l20Set_ (Rdr.take (τ := [])) (Code.take hC) (by omega) _ (by omega) fun S cap p1 h11 h12 hS8 hS _ => ?_
  simp only [go_sem, Int.reduceToNat, List.take_nil, Nat.zero_mul, Nat.reduceEqDiff, Nat.reduceAdd, Nat.reduceLT, Nat.reduceLeDiff, Nat.reduceMul, ↓reduceIte, reduceCtorEq]
  exact Fin.pick [0, 2] (.sl 1 0 S.length cap) _ ⟨S, cap, rfl, rfl, hS8⟩
end Go.Proofs.Ytfngcejaphhmmaa
