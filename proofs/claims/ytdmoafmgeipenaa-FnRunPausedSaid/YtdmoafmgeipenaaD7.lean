/- What a paused run, and a slack, is drawn from. -/
import Derived.Test.YtdmoafmgeipenaaD6
import Derived.Test.YtdmoafmgeipenaaS10
namespace Go.Proofs.Ytdmoafmgeipenaa
open Go.Abs Go.Ds
set_option linter.unusedSimpArgs false
set_option linter.unusedVariables false
set_option maxRecDepth 20000
set_option maxHeartbeats 2000000

theorem pausePick_zero (f : Int) (L : List Job) : pausePick f 0 L = edfPick L := by
  funext now done
  unfold pausePick
  rw [if_neg (by omega)]
theorem pauseFin_zero (f : Int) (L : List Job) : pauseFin f 0 L = edfFin L := by unfold pauseFin; rw [pausePick_zero]; rfl
theorem pauseRun_zero (f : Int) (L : List Job) : pauseRun f 0 L = edfRun L := by unfold pauseRun; rw [pausePick_zero]; rfl

theorem spec_l20Open3 {A D : AB} (C : List Nat) (c : Nat) (hc : C.length ≤ c) : CallWp Try.prog n_spec_l20Open [.sl 0 0 C.length c] [.ro (encByte.row C), A, D] (fun x σ' => x = .p 3 0 ∧ σ' = [.ro (encByte.row C), A, D, .rw ty_spec_l20Rd [.sl 0 0 (C.take 2000).length c, .i .i64 0] 2]) := by
  refine call_spec_l20Open (by simp) ?_
  simp only [c_spec_l20Open, go_sem, Int.reduceToNat, List.take_nil, Nat.zero_mul, Nat.reduceEqDiff, Nat.reduceAdd, Nat.reduceLT, Nat.reduceLeDiff, Nat.reduceMul, ↓reduceIte, reduceCtorEq]
  refine seq_join (fun _ : Unit => ⟨[(0, .sl 0 0 (C.take 2000).length c)], [.ro (encByte.row C), A, D]⟩) (fun _ => True) ?_ fun _ _ => ?_
  · simp only [go_sem, Int.reduceToNat, List.take_nil, Nat.zero_mul, Nat.reduceEqDiff, Nat.reduceAdd, Nat.reduceLT, Nat.reduceLeDiff, Nat.reduceMul, ↓reduceIte, reduceCtorEq]
    refine ⟨fun h => ⟨by omega, by omega, kJ_intro () trivial ?_⟩, fun h => kJ_intro () trivial ?_⟩
    · have : (C.take 2000).length = 2000 := by rw [List.length_take]; omega
      rw [this]
      exact Wk.keep (by
      intro p hp
      simp only [List.mem_singleton] at hp
      subst hp
      simp [look_cons])
    · rw [List.take_of_length_le (by omega)]; exact Wk.keep (by
      intro p hp
      simp only [List.mem_singleton] at hp
      subst hp
      simp [look_cons])
  · simp only [go_sem, Int.reduceToNat, List.take_nil, Nat.zero_mul, Nat.reduceEqDiff, Nat.reduceAdd, Nat.reduceLT, Nat.reduceLeDiff, Nat.reduceMul, ↓reduceIte, reduceCtorEq]
    exact Fin.plain ⟨rfl, rfl⟩

theorem spec_DrawRunPaused0 (C : List Nat) (hC : ∀ x ∈ C, x < 256) (c : Nat) (hc : C.length ≤ c) : CallWp Try.prog n_spec_DrawRunPaused [.sl 0 0 C.length c] [.ro (encByte.row C)] (fun x σ' => ∃ (S : List Task) (L : List Job) (cap cap' : Nat) (f n : Int),
    x = .tup [.sl 1 0 S.length cap, .sl 2 0 L.length cap', .i .i64 f, .i .i64 n] ∧ σ' = [.ro (encByte.row C), .rw ty_impl_Task (encTask.row S) (cap * 3), .rw ty_impl_Job (encJob.row L) (cap' * 4)] ∧ (S.length ≤ 8 ∧ L.length ≤ 62) ∧ (-1 ≤ f ∧ f ≤ 120) ∧ -1 ≤ n ∧ n ≤ 121) := by
  refine call_spec_DrawRunPaused (by simp) ?_
  simp only [c_spec_DrawRunPaused, go_sem, Int.reduceToNat, List.take_nil, Nat.zero_mul, Nat.reduceEqDiff, Nat.reduceAdd, Nat.reduceLT, Nat.reduceLeDiff, Nat.reduceMul, ↓reduceIte, reduceCtorEq]
  refine (spec_DrawRunEdf0 C hC c hc).mono ?_
  rintro x σ' _ ⟨S, L, cap, cap', rfl, rfl, ⟨hS8, hSw⟩, hL62, hLw⟩
  simp only [go_sem, Int.reduceToNat, List.take_nil, Nat.zero_mul, Nat.reduceEqDiff, Nat.reduceAdd, Nat.reduceLT, Nat.reduceLeDiff, Nat.reduceMul, ↓reduceIte, reduceCtorEq]
  refine (spec_l20Open3 C c hc).mono ?_
  rintro x σ' _ ⟨rfl, rfl⟩
  simp only [not_true_eq_false, not_false_eq_true, decide_true, decide_false, Bool.not_true, Bool.not_false, false_implies, true_implies, and_true, true_and, Bool.false_eq_true, Bool.true_eq_false, implies_true, Bool.not_not, Classical.not_not, go_sem, Int.reduceToNat, List.take_nil, Nat.zero_mul, Nat.reduceEqDiff, Nat.reduceAdd, Nat.reduceLT, Nat.reduceLeDiff, Nat.reduceMul, ↓reduceIte, reduceCtorEq]
  refine n_p50 hC ⟨3, [], by decide, by decide, rfl⟩ rfl rfl rfl rfl rfl rfl fun T σ hp e2 e3 n4 n5 => ?_
  obtain ⟨f, e4, f1, f2⟩ := n4
  obtain ⟨n, e5, g1, g2⟩ := n5
  obtain ⟨p, τ, h1, h2, rfl⟩ := hp
  simp only [e2, e3, e4, e5, not_true_eq_false, not_false_eq_true, decide_true, decide_false, Bool.not_true, Bool.not_false, false_implies, true_implies, and_true, true_and, Bool.false_eq_true, Bool.true_eq_false, implies_true, Bool.not_not, Classical.not_not, go_sem, Int.reduceToNat, List.take_nil, Nat.zero_mul, Nat.reduceEqDiff, Nat.reduceAdd, Nat.reduceLT, Nat.reduceLeDiff, Nat.reduceMul, ↓reduceIte, reduceCtorEq]
  exact Fin.drop (σ := [.ro (encByte.row C), .rw ty_impl_Task (encTask.row S) (cap * 3), .rw ty_impl_Job (encJob.row L) (cap' * 4)]) (Closed.add (σ := []) (fun n B h => by simp at h) (by simp [Go.Abs.cellsIn, Go.Abs.Enc.row_bel])) (by simp) rfl ⟨S, L, cap, cap', f, n, rfl, rfl, ⟨hS8, hL62⟩, ⟨f1, f2⟩, g1, g2⟩

theorem spec_DrawSlack0 (C : List Nat) (hC : ∀ x ∈ C, x < 256) (c : Nat) (hc : C.length ≤ c) : CallWp Try.prog n_spec_DrawSlack [.sl 0 0 C.length c] [.ro (encByte.row C)] (fun x σ' => ∃ (S : List Task) (L : List Job) (cap cap' : Nat) (f : Int),
    x = .tup [.sl 1 0 S.length cap, .sl 2 0 L.length cap', .i .i64 f] ∧ σ' = [.ro (encByte.row C), .rw ty_impl_Task (encTask.row S) (cap * 3), .rw ty_impl_Job (encJob.row L) (cap' * 4)] ∧ (S.length ≤ 8 ∧ L.length ≤ 62) ∧ (-1 ≤ f ∧ f ≤ 120)) := by
  refine call_spec_DrawSlack (by simp) ?_
  simp only [c_spec_DrawSlack, go_sem, Int.reduceToNat, List.take_nil, Nat.zero_mul, Nat.reduceEqDiff, Nat.reduceAdd, Nat.reduceLT, Nat.reduceLeDiff, Nat.reduceMul, ↓reduceIte, reduceCtorEq]
  refine (spec_DrawRunPaused0 C hC c hc).mono ?_
  rintro x σ' _ ⟨S, L, cap, cap', f, n, rfl, rfl, hS, hf, hn⟩
  simp only [go_sem, Int.reduceToNat, List.take_nil, Nat.zero_mul, Nat.reduceEqDiff, Nat.reduceAdd, Nat.reduceLT, Nat.reduceLeDiff, Nat.reduceMul, ↓reduceIte, reduceCtorEq]
  exact Fin.pick [0, 1, 2] (.tup [.sl 1 0 S.length cap, .sl 2 0 L.length cap', .i .i64 f]) _ ⟨S, L, cap, cap', f, rfl, rfl, hS, hf⟩
end Go.Proofs.Ytdmoafmgeipenaa
