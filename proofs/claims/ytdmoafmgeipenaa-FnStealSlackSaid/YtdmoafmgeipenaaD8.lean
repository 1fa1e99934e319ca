import Derived.Test.YtdmoafmgeipenaaF2
import Derived.Test.YtdmoafmgeipenaaD4
import Derived.Test.YtdmoafmgeipenaaS50
import Derived.Test.YtdmoafmgeipenaaS5
namespace Go.Proofs.Ytdmoafmgeipenaa
open Go.Abs Go.Ds
set_option linter.unusedSimpArgs false
set_option linter.unusedVariables false
set_option maxRecDepth 20000
set_option maxHeartbeats 4000000
def DrawP (N : Nat) (x : AV) (τ : List AB) : Prop := ∃ (S : List Task) (L : List Job) (cap cap' : Nat), x = .tup [.sl N 0 S.length cap, .sl (N + 1) 0 L.length cap'] ∧ τ = [.rw ty_impl_Task (encTask.row S) (cap * 3), .rw ty_impl_Job (encJob.row L) (cap' * 4)] ∧ S.length ≤ 8 ∧ L.length ≤ 62
theorem DrawP.fr {N : Nat} {x : AV} {τ : List AB} (h : DrawP N x τ) : τ.all plainRw = true ∧ freshA N x = true := by
  obtain ⟨S, L, cap, cap', rfl, rfl, _⟩ := h
  simp [plainRw, encTask.row_flat, encJob.row_flat, freshA, fresh1A, freshC]
theorem spec_l20Open00 (C : List Nat) (c : Nat) : CallWp Try.prog n_spec_l20Open [.sl 0 0 C.length c] [.ro (encByte.row C)] (fun x σ' => x = .p 1 0 ∧ σ' = [.ro (encByte.row C), .rw ty_spec_l20Rd [.sl 0 0 (C.take 2000).length c, .i .i64 0] 2]) := by
  refine call_spec_l20Open (by simp) ?_
  simp only [c_spec_l20Open, go_sem, Int.reduceToNat, List.take_nil, Nat.zero_mul, Nat.reduceEqDiff, Nat.reduceAdd, Nat.reduceLT, Nat.reduceLeDiff, Nat.reduceMul, ↓reduceIte, reduceCtorEq]
  refine seq_join (fun _ : Unit => ⟨[(0, .sl 0 0 (C.take 2000).length c)], [.ro (encByte.row C)]⟩) (fun _ => True) ?_ fun _ _ => ?_
  · simp only [go_sem, Int.reduceToNat, List.take_nil, Nat.zero_mul, Nat.reduceEqDiff, Nat.reduceAdd, Nat.reduceLT, Nat.reduceLeDiff, Nat.reduceMul, ↓reduceIte, reduceCtorEq]
    refine ⟨fun h => ⟨by omega, by omega, kJ_intro () trivial ?_⟩, fun h => kJ_intro () trivial ?_⟩
    · have : (C.take 2000).length = 2000 := by rw [List.length_take]; omega
      rw [this]
      exact Wk.pick [0]
    · rw [List.take_of_length_le (by omega)]; exact Wk.pick [0]
  · simp only [go_sem, Int.reduceToNat, List.take_nil, Nat.zero_mul, Nat.reduceEqDiff, Nat.reduceAdd, Nat.reduceLT, Nat.reduceLeDiff, Nat.reduceMul, ↓reduceIte, reduceCtorEq]
    exact Fin.plain ⟨rfl, rfl⟩
theorem spec_DrawRunEdf00 (C : List Nat) (hC : ∀ x ∈ C, x < 256) (c : Nat) : CallWp Try.prog n_spec_DrawRunEdf [.sl 0 0 C.length c] [.ro (encByte.row C)] (fun x σ' => ∃ τ, σ' = [.ro (encByte.row C)] ++ τ ∧ DrawP 1 x τ) := by
  refine call_spec_DrawRunEdf (by simp) ?_
  simp only [c_spec_DrawRunEdf, go_sem, Int.reduceToNat, List.take_nil, Nat.zero_mul, Nat.reduceEqDiff, Nat.reduceAdd, Nat.reduceLT, Nat.reduceLeDiff, Nat.reduceMul, ↓reduceIte, reduceCtorEq]
  refine (spec_l20Open00 C c).mono ?_
  rintro x σ' _ ⟨rfl, rfl⟩
  simp only [go_sem, Int.reduceToNat, List.take_nil, Nat.zero_mul, Nat.reduceEqDiff, Nat.reduceAdd, Nat.reduceLT, Nat.reduceLeDiff, Nat.reduceMul, ↓reduceIte, reduceCtorEq]
  refine spec_l20Set_ (Rdr.take (τ := [])) (Code.take hC) (by omega) _ (by omega) fun S cap p1 h11 h12 hS8 hS _ => ?_
  simp only [go_sem, Int.reduceToNat, List.take_nil, Nat.zero_mul, Nat.reduceEqDiff, Nat.reduceAdd, Nat.reduceLT, Nat.reduceLeDiff, Nat.reduceMul, ↓reduceIte, reduceCtorEq]
  refine spec_SetValid_ (L := S) (by omega) (Rd.own rfl) ?_
  simp only [not_true_eq_false, not_false_eq_true, decide_true, decide_false, Bool.not_true, Bool.not_false, false_implies, true_implies, and_true, true_and, Bool.false_eq_true, Bool.true_eq_false, implies_true, Bool.not_not, Classical.not_not, go_sem, Int.reduceToNat, List.take_nil, Nat.zero_mul, Nat.reduceEqDiff, Nat.reduceAdd, Nat.reduceLT, Nat.reduceLeDiff, Nat.reduceMul, ↓reduceIte, reduceCtorEq]
  refine ⟨fun hv => ?_, fun hv => ?_⟩
  · exact Fin.pick [0, 2, 3] (.tup [.sl 1 0 S.length cap, .sl 2 0 0 0]) [.ro (encByte.row C), .rw ty_impl_Task (encTask.row S) (cap * 3), .rw ty_impl_Job (encJob.row []) (0 * 4)] ⟨_, rfl, S, [], cap, 0, rfl, rfl, hS8, by simp⟩
  · refine spec_l20Jobs_ (Rdr.take (τ := [_])) (Code.take hC) (by omega) hv (Sl.own rfl (by decide)) _ (by omega) fun L cap' p2 h21 h22 hL62 hL => ?_
    simp only [go_sem, Int.reduceToNat, List.take_nil, Nat.zero_mul, Nat.reduceEqDiff, Nat.reduceAdd, Nat.reduceLT, Nat.reduceLeDiff, Nat.reduceMul, ↓reduceIte, reduceCtorEq]
    exact Fin.pick [0, 2, 3] (.tup [.sl 1 0 S.length cap, .sl 2 0 L.length cap']) [.ro (encByte.row C), .rw ty_impl_Task (encTask.row S) (cap * 3), .rw ty_impl_Job (encJob.row L) (cap' * 4)] ⟨_, rfl, S, L, cap, cap', rfl, rfl, hS8, hL62⟩
theorem spec_DrawRunEdf_ {C : List Nat} (hC : ∀ x ∈ C, x < 256) {v : AV} {σ : List AB} (h : Rd encByte σ v C) {K : AV → List AB → Prop}
    (hk : ∀ (S : List Task) (L : List Job) (cap cap' : Nat), S.length ≤ 8 → L.length ≤ 62 → K (.tup [.sl σ.length 0 S.length cap, .sl (σ.length + 1) 0 L.length cap']) (σ ++ [.rw ty_impl_Task (encTask.row S) (cap * 3), .rw ty_impl_Job (encJob.row L) (cap' * 4)])) : CallWp Try.prog n_spec_DrawRunEdf [v] σ K := by
  refine call_news _ (rds1 h.r) (fun c => [.sl 0 0 C.length (c 0)]) (DrawP 1) (fun c => spec_DrawRunEdf00 C hC (c 0)) (fun _ _ h => h.fr) (fun ν c h => ⟨h.1, trivial⟩) (fun _ => rfl) ?_
  rintro x τ ⟨S, L, cap, cap', rfl, rfl, h1, h2⟩
  exact hk S L cap cap' h1 h2
theorem Rdr.take4 {A D E : AB} {C : List Nat} {c : Nat} {p : Int} {τ : List AB} : Rdr ty_spec_l20Rd (.ro (encByte.row C) :: A :: D :: E :: .rw ty_spec_l20Rd [.sl 0 0 (C.take 2000).length c, .i .i64 p] 2 :: τ) 4 (C.take 2000) p 0 0 c := by
  have h1 : (encByte.row C).take (C.take 2000).length = encByte.row (C.take 2000) := by
    have h := encByte.take C (C.take 2000).length
    simp only [encByte, Nat.mul_one] at h
    simp only [encByte]
    rw [h]
    congr 1
    rw [List.length_take]
    rcases Nat.le_total 2000 C.length with h | h
    · rw [Nat.min_eq_left h]
    · rw [Nat.min_eq_right h, List.take_length, List.take_of_length_le h]
  refine ⟨rfl, by decide, encByte.row C, rfl, by rw [lenB, List.length_take]; omega, ?_⟩
  simp only [Abs.win, List.drop_zero, h1]
theorem spec_l20Open4 {A D E : AB} (C : List Nat) (c : Nat) : CallWp Try.prog n_spec_l20Open [.sl 0 0 C.length c] [.ro (encByte.row C), A, D, E] (fun x σ' => x = .p 4 0 ∧ σ' = [.ro (encByte.row C), A, D, E, .rw ty_spec_l20Rd [.sl 0 0 (C.take 2000).length c, .i .i64 0] 2]) := by
  refine call_spec_l20Open (by simp) ?_
  simp only [c_spec_l20Open, go_sem, Int.reduceToNat, List.take_nil, Nat.zero_mul, Nat.reduceEqDiff, Nat.reduceAdd, Nat.reduceLT, Nat.reduceLeDiff, Nat.reduceMul, ↓reduceIte, reduceCtorEq]
  refine seq_join (fun _ : Unit => ⟨[(0, .sl 0 0 (C.take 2000).length c)], [.ro (encByte.row C), A, D, E]⟩) (fun _ => True) ?_ fun _ _ => ?_
  · simp only [go_sem, Int.reduceToNat, List.take_nil, Nat.zero_mul, Nat.reduceEqDiff, Nat.reduceAdd, Nat.reduceLT, Nat.reduceLeDiff, Nat.reduceMul, ↓reduceIte, reduceCtorEq]
    refine ⟨fun h => ⟨by omega, by omega, kJ_intro () trivial ?_⟩, fun h => kJ_intro () trivial ?_⟩
    · have : (C.take 2000).length = 2000 := by rw [List.length_take]; omega
      rw [this]
      exact Wk.keep (by
      intro p hp
      simp only [List.mem_singleton] at hp
      subst hp
      simp [look_cons])
    · rw [List.take_of_length_le (by omega)]; exact Wk.keep (by
      intro p hp
      simp only [List.mem_singleton] at hp
      subst hp
      simp [look_cons])
  · simp only [go_sem, Int.reduceToNat, List.take_nil, Nat.zero_mul, Nat.reduceEqDiff, Nat.reduceAdd, Nat.reduceLT, Nat.reduceLeDiff, Nat.reduceMul, ↓reduceIte, reduceCtorEq]
    exact Fin.plain ⟨rfl, rfl⟩
theorem quo8 {r : Int} (h0 : 0 ≤ r) (h1 : r < 9) : r.tdiv 8 = 0 ∨ r.tdiv 8 = 1 := by
  rw [Int.tdiv_eq_ediv_of_nonneg h0]; omega
theorem rd2 {m x y : Int} (h : m = 0 ∨ m = 1) : rd [AV.i .i64 x, AV.i .i64 y] m.toNat = .i .i64 (if m = 0 then x else y) := by
  rcases h with rfl | rfl <;> rfl
theorem spec_DrawStealSlack0 (C : List Nat) (hC : ∀ x ∈ C, x < 256) (c : Nat) (hc : C.length ≤ c) : CallWp Try.prog n_spec_DrawStealSlack [.sl 0 0 C.length c] [.ro (encByte.row C)] (fun x σ' => ∃ (S : List Task) (L : List Job) (cap cap' : Nat) (q : Arr),
    x = .tup [.sl 1 0 S.length cap, .sl 2 0 L.length cap', .agg [.i .i64 q.t, .i .i64 q.e]] ∧ σ' = [.ro (encByte.row C), .rw ty_impl_Task (encTask.row S) (cap * 3), .rw ty_impl_Job (encJob.row L) (cap' * 4)] ∧ S.length ≤ 8 ∧ L.length ≤ 62 ∧ (-1 ≤ q.t ∧ q.t ≤ 70) ∧ 0 ≤ q.e ∧ q.e ≤ 8) := by
  refine call_spec_DrawStealSlack (by simp) ?_
  simp only [c_spec_DrawStealSlack, not_true_eq_false, not_false_eq_true, decide_true, decide_false, Bool.not_true, Bool.not_false, false_implies, true_implies, and_true, true_and, Bool.false_eq_true, Bool.true_eq_false, implies_true, Bool.not_not, Classical.not_not, go_sem, Int.reduceToNat, List.take_nil, Nat.zero_mul, Nat.reduceEqDiff, Nat.reduceAdd, Nat.reduceLT, Nat.reduceLeDiff, Nat.reduceMul, ↓reduceIte, reduceCtorEq]
  refine spec_DrawRunEdf_ (C := C) hC (Rd.own rfl) fun S L cap cap' hS8 hL62 => ?_
  simp only [not_true_eq_false, not_false_eq_true, decide_true, decide_false, Bool.not_true, Bool.not_false, false_implies, true_implies, and_true, true_and, Bool.false_eq_true, Bool.true_eq_false, implies_true, Bool.not_not, Classical.not_not, go_sem, Int.reduceToNat, List.take_nil, Nat.zero_mul, Nat.reduceEqDiff, Nat.reduceAdd, Nat.reduceLT, Nat.reduceLeDiff, Nat.reduceMul, ↓reduceIte, reduceCtorEq]
  refine (spec_l20Open4 C c).mono ?_
  rintro x σ' _ ⟨rfl, rfl⟩
  simp only [not_true_eq_false, not_false_eq_true, decide_true, decide_false, Bool.not_true, Bool.not_false, false_implies, true_implies, and_true, true_and, Bool.false_eq_true, Bool.true_eq_false, implies_true, Bool.not_not, Classical.not_not, go_sem, Int.reduceToNat, List.take_nil, Nat.zero_mul, Nat.reduceEqDiff, Nat.reduceAdd, Nat.reduceLT, Nat.reduceLeDiff, Nat.reduceMul, ↓reduceIte, reduceCtorEq]
  repeat' first
    | omega
    | exact trivial
    | (refine spec_l20Rd_pick_ Rdr.take4 (Code.take hC) (by omega) 70 (by omega) fun r hr1 hr2 _ => ?_; have hr2 := hr2 (by omega); (first | simp only [← hma, ← hmb, rd2 hqa, rd2 hqb, not_true_eq_false, not_false_eq_true, decide_true, decide_false, Bool.not_true, Bool.not_false, false_implies, true_implies, and_true, true_and, Bool.false_eq_true, Bool.true_eq_false, implies_true, Bool.not_not, Classical.not_not, go_sem, Int.reduceToNat, List.take_nil, Nat.zero_mul, Nat.reduceEqDiff, Nat.reduceAdd, Nat.reduceLT, Nat.reduceLeDiff, Nat.reduceMul, ↓reduceIte, reduceCtorEq] | simp only [← hma, rd2 hqa, not_true_eq_false, not_false_eq_true, decide_true, decide_false, Bool.not_true, Bool.not_false, false_implies, true_implies, and_true, true_and, Bool.false_eq_true, Bool.true_eq_false, implies_true, Bool.not_not, Classical.not_not, go_sem, Int.reduceToNat, List.take_nil, Nat.zero_mul, Nat.reduceEqDiff, Nat.reduceAdd, Nat.reduceLT, Nat.reduceLeDiff, Nat.reduceMul, ↓reduceIte, reduceCtorEq] | simp only [not_true_eq_false, not_false_eq_true, decide_true, decide_false, Bool.not_true, Bool.not_false, false_implies, true_implies, and_true, true_and, Bool.false_eq_true, Bool.true_eq_false, implies_true, Bool.not_not, Classical.not_not, go_sem, Int.reduceToNat, List.take_nil, Nat.zero_mul, Nat.reduceEqDiff, Nat.reduceAdd, Nat.reduceLT, Nat.reduceLeDiff, Nat.reduceMul, ↓reduceIte, reduceCtorEq]))
    | (refine spec_l20Rd_pick_ Rdr.take4 (Code.take hC) (by omega) 8 (by omega) fun s hs1 hs2 _ => ?_; have hs2 := hs2 (by omega); (first | simp only [← hma, ← hmb, rd2 hqa, rd2 hqb, not_true_eq_false, not_false_eq_true, decide_true, decide_false, Bool.not_true, Bool.not_false, false_implies, true_implies, and_true, true_and, Bool.false_eq_true, Bool.true_eq_false, implies_true, Bool.not_not, Classical.not_not, go_sem, Int.reduceToNat, List.take_nil, Nat.zero_mul, Nat.reduceEqDiff, Nat.reduceAdd, Nat.reduceLT, Nat.reduceLeDiff, Nat.reduceMul, ↓reduceIte, reduceCtorEq] | simp only [← hma, rd2 hqa, not_true_eq_false, not_false_eq_true, decide_true, decide_false, Bool.not_true, Bool.not_false, false_implies, true_implies, and_true, true_and, Bool.false_eq_true, Bool.true_eq_false, implies_true, Bool.not_not, Classical.not_not, go_sem, Int.reduceToNat, List.take_nil, Nat.zero_mul, Nat.reduceEqDiff, Nat.reduceAdd, Nat.reduceLT, Nat.reduceLeDiff, Nat.reduceMul, ↓reduceIte, reduceCtorEq] | simp only [not_true_eq_false, not_false_eq_true, decide_true, decide_false, Bool.not_true, Bool.not_false, false_implies, true_implies, and_true, true_and, Bool.false_eq_true, Bool.true_eq_false, implies_true, Bool.not_not, Classical.not_not, go_sem, Int.reduceToNat, List.take_nil, Nat.zero_mul, Nat.reduceEqDiff, Nat.reduceAdd, Nat.reduceLT, Nat.reduceLeDiff, Nat.reduceMul, ↓reduceIte, reduceCtorEq]))
    | (have hz := hqa; refine spec_l20Rd_pick_ Rdr.take4 (Code.take hC) (by omega) 9 (by omega) fun b hb1 hb2 _ => ?_; have hqb := quo8 hb1 (hb2 (by omega)); obtain ⟨mb, hmb⟩ : ∃ m, m = b.tdiv 8 := ⟨_, rfl⟩; rw [← hmb] at hqb; (first | simp only [← hma, ← hmb, rd2 hqa, rd2 hqb, not_true_eq_false, not_false_eq_true, decide_true, decide_false, Bool.not_true, Bool.not_false, false_implies, true_implies, and_true, true_and, Bool.false_eq_true, Bool.true_eq_false, implies_true, Bool.not_not, Classical.not_not, go_sem, Int.reduceToNat, List.take_nil, Nat.zero_mul, Nat.reduceEqDiff, Nat.reduceAdd, Nat.reduceLT, Nat.reduceLeDiff, Nat.reduceMul, ↓reduceIte, reduceCtorEq] | simp only [← hma, rd2 hqa, not_true_eq_false, not_false_eq_true, decide_true, decide_false, Bool.not_true, Bool.not_false, false_implies, true_implies, and_true, true_and, Bool.false_eq_true, Bool.true_eq_false, implies_true, Bool.not_not, Classical.not_not, go_sem, Int.reduceToNat, List.take_nil, Nat.zero_mul, Nat.reduceEqDiff, Nat.reduceAdd, Nat.reduceLT, Nat.reduceLeDiff, Nat.reduceMul, ↓reduceIte, reduceCtorEq] | simp only [not_true_eq_false, not_false_eq_true, decide_true, decide_false, Bool.not_true, Bool.not_false, false_implies, true_implies, and_true, true_and, Bool.false_eq_true, Bool.true_eq_false, implies_true, Bool.not_not, Classical.not_not, go_sem, Int.reduceToNat, List.take_nil, Nat.zero_mul, Nat.reduceEqDiff, Nat.reduceAdd, Nat.reduceLT, Nat.reduceLeDiff, Nat.reduceMul, ↓reduceIte, reduceCtorEq]))
    | (refine spec_l20Rd_pick_ Rdr.take4 (Code.take hC) (by omega) 9 (by omega) fun a ha1 ha2 _ => ?_; have hqa := quo8 ha1 (ha2 (by omega)); obtain ⟨ma, hma⟩ : ∃ m, m = a.tdiv 8 := ⟨_, rfl⟩; rw [← hma] at hqa; (first | simp only [← hma, ← hmb, rd2 hqa, rd2 hqb, not_true_eq_false, not_false_eq_true, decide_true, decide_false, Bool.not_true, Bool.not_false, false_implies, true_implies, and_true, true_and, Bool.false_eq_true, Bool.true_eq_false, implies_true, Bool.not_not, Classical.not_not, go_sem, Int.reduceToNat, List.take_nil, Nat.zero_mul, Nat.reduceEqDiff, Nat.reduceAdd, Nat.reduceLT, Nat.reduceLeDiff, Nat.reduceMul, ↓reduceIte, reduceCtorEq] | simp only [← hma, rd2 hqa, not_true_eq_false, not_false_eq_true, decide_true, decide_false, Bool.not_true, Bool.not_false, false_implies, true_implies, and_true, true_and, Bool.false_eq_true, Bool.true_eq_false, implies_true, Bool.not_not, Classical.not_not, go_sem, Int.reduceToNat, List.take_nil, Nat.zero_mul, Nat.reduceEqDiff, Nat.reduceAdd, Nat.reduceLT, Nat.reduceLeDiff, Nat.reduceMul, ↓reduceIte, reduceCtorEq] | simp only [not_true_eq_false, not_false_eq_true, decide_true, decide_false, Bool.not_true, Bool.not_false, false_implies, true_implies, and_true, true_and, Bool.false_eq_true, Bool.true_eq_false, implies_true, Bool.not_not, Classical.not_not, go_sem, Int.reduceToNat, List.take_nil, Nat.zero_mul, Nat.reduceEqDiff, Nat.reduceAdd, Nat.reduceLT, Nat.reduceLeDiff, Nat.reduceMul, ↓reduceIte, reduceCtorEq]))
    | exact Fin.pick [0, 2, 3] (.tup [.sl 1 0 S.length cap, .sl 2 0 L.length cap', .agg [.i .i64 (if ma = 0 then r else -1), .i .i64 (if mb = 0 then 1 + s else 0)]]) _ ⟨S, L, cap, cap', ⟨if ma = 0 then r else -1, if mb = 0 then 1 + s else 0⟩, rfl, rfl, hS8, hL62, by simp only; split <;> omega, by simp only; split <;> omega⟩
    | refine ⟨?_, ?_⟩
end Go.Proofs.Ytdmoafmgeipenaa
