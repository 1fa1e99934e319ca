/- The law FnSlack answers true: over the abstract heap. -/
import Derived.Test.YtdmoafmgeipenaaD7
import Derived.Test.YtdmoafmgeipenaaE12
namespace Go.Proofs.Ytdmoafmgeipenaa
open Go.Abs Go.Ds
set_option linter.unusedSimpArgs false
set_option linter.unusedVariables false
set_option maxRecDepth 20000
set_option maxHeartbeats 2000000

theorem cut_ex (P : Int → Prop) (hP : ∀ a b, a ≤ b → P b → P a) : ∃ s : Int, (-1 ≤ s ∧ s ≤ 120) ∧ (∀ k : Int, 0 ≤ k → k ≤ s → P k) ∧ (s < 120 → ¬ P (s + 1)) := by
  have key : ∀ m : Nat, m ≤ 120 → (∃ s : Int, (-1 ≤ s ∧ s ≤ 120) ∧ (∀ k : Int, 0 ≤ k → k ≤ s → P k) ∧ (s < 120 → ¬ P (s + 1))) ∨ P m := by
    intro m
    induction m with
    | zero =>
      intro _
      by_cases e : P 0
      · exact .inr e
      · exact .inl ⟨-1, by omega, fun k h1 h2 => by omega, fun _ => by rw [show (-1 : Int) + 1 = 0 by omega]; exact e⟩
    | succ m ih =>
      intro hm
      rcases ih (by omega) with h2 | e
      · exact .inl h2
      · by_cases e' : P ((m : Int) + 1)
        · exact .inr (by simpa using e')
        · exact .inl ⟨m, by omega, fun k h1 h2 => hP _ _ h2 e, fun _ => e'⟩
  rcases key 120 (Nat.le_refl _) with h2 | e
  · exact h2
  · exact ⟨120, by omega, fun k h1 h2 => hP _ _ h2 e, fun h => absurd h (by decide)⟩
theorem slack_ex {S : List Task} {L : List Job} (h : jobsLegal S L) (f : Int) : ∃ s, SlackV L f s := cut_ex (fun n => pm L f n = []) fun _ _ hn hm => pm_mono h hn hm

theorem laws_FnSlack0 (C : List Nat) (hC : ∀ x ∈ C, x < 256) (c : Nat) (hc : C.length ≤ c) : CallWp Try.prog n_laws_FnSlack [.sl 0 0 C.length c] [.ro (encByte.row C)] (fun x _ => x = .b true) := by
  refine call_laws_FnSlack (by simp) ?_
  simp only [c_laws_FnSlack, go_sem, Int.reduceToNat, List.take_nil, Nat.zero_mul, Nat.reduceEqDiff, Nat.reduceAdd, Nat.reduceLT, Nat.reduceLeDiff, Nat.reduceMul, ↓reduceIte, reduceCtorEq]
  refine ⟨fun h => Fin.plain rfl, fun h => ?_⟩
  refine (spec_DrawSlack0 C hC c hc).mono ?_
  rintro x σ' _ ⟨S, L, cap, cap', f, rfl, rfl, ⟨hS8, hL62⟩, hf⟩
  simp only [go_sem, Int.reduceToNat, List.take_nil, Nat.zero_mul, Nat.reduceEqDiff, Nat.reduceAdd, Nat.reduceLT, Nat.reduceLeDiff, Nat.reduceMul, ↓reduceIte, reduceCtorEq]
  obtain ⟨r, hi, hp, hno, hyes⟩ := slack_both S L f (by omega) (by omega)
  refine hi (Rd.own rfl) (Rd.own rfl) ?_
  simp only [not_true_eq_false, not_false_eq_true, decide_true, decide_false, Bool.not_true, Bool.not_false, false_implies, true_implies, and_true, true_and, Bool.false_eq_true, Bool.true_eq_false, implies_true, Bool.not_not, Classical.not_not, go_sem, Int.reduceToNat, List.take_nil, Nat.zero_mul, Nat.reduceEqDiff, Nat.reduceAdd, Nat.reduceLT, Nat.reduceLeDiff, Nat.reduceMul, ↓reduceIte, reduceCtorEq]
  refine hp (Rd.own rfl) (Rd.own rfl) ?_
  simp only [not_true_eq_false, not_false_eq_true, decide_true, decide_false, Bool.not_true, Bool.not_false, false_implies, true_implies, and_true, true_and, Bool.false_eq_true, Bool.true_eq_false, implies_true, Bool.not_not, Classical.not_not, go_sem, Int.reduceToNat, List.take_nil, Nat.zero_mul, Nat.reduceEqDiff, Nat.reduceAdd, Nat.reduceLT, Nat.reduceLeDiff, Nat.reduceMul, ↓reduceIte, reduceCtorEq]
  refine spec_JobsLegal_ (S := S) (L := L) (by omega) (by omega) (Rd.own rfl) (Rd.own rfl) ?_
  by_cases hv : jobsLegal S L
  · by_cases hf0 : 0 ≤ f
    · have hsv := hyes ⟨hv, hf0, hf.2⟩ (slack_ex hv f)
      obtain ⟨s1, s2, s3⟩ := hsv
      have hF0 : (edfFin L).length = L.length := edfFin_length L
      simp only [hv, not_true_eq_false, not_false_eq_true, decide_true, decide_false, Bool.not_true, Bool.not_false, false_implies, true_implies, and_true, true_and, Bool.false_eq_true, Bool.true_eq_false, implies_true, Bool.not_not, Classical.not_not, go_sem, Int.reduceToNat, List.take_nil, Nat.zero_mul, Nat.reduceEqDiff, Nat.reduceAdd, Nat.reduceLT, Nat.reduceLeDiff, Nat.reduceMul, ↓reduceIte, reduceCtorEq]
      refine ⟨fun _ => ⟨fun h => by omega, fun _ => ⟨fun hneg => ?_, fun hpos => ?_⟩⟩, fun h => by omega⟩
      · have e : r = -1 := by omega
        subst e
        have hm : missedL L (edfFin L) ≠ [] := by
          have := s3 (by omega)
          rw [← pauseFin_zero f L]; exact this
        refine impl_RunEdf_ (S := S) (L := L) (by omega) (by omega) (Rd.own rfl) (Rd.own rfl) (fun hno => absurd hv hno) (fun _ c1 c2 => ?_)
        simp only [go_sem, Int.reduceToNat, List.take_nil, Nat.zero_mul, Nat.reduceEqDiff, Nat.reduceAdd, Nat.reduceLT, Nat.reduceLeDiff, Nat.reduceMul, ↓reduceIte, reduceCtorEq]
        refine impl_Missed_ (L := L) (fin := edfFin L) (by omega) hF0 (Rd.own rfl) (Rd.len' rfl hF0) (fun e => absurd e hm) (fun e cM => ?_)
        have := List.length_pos_iff.2 e
        simp only [not_true_eq_false, not_false_eq_true, decide_true, decide_false, Bool.not_true, Bool.not_false, false_implies, true_implies, and_true, true_and, Bool.false_eq_true, Bool.true_eq_false, implies_true, Bool.not_not, Classical.not_not, go_sem, Int.reduceToNat, List.take_nil, Nat.zero_mul, Nat.reduceEqDiff, Nat.reduceAdd, Nat.reduceLT, Nat.reduceLeDiff, Nat.reduceMul, ↓reduceIte, reduceCtorEq]
        exact Fin.plain (by congr 1; simp only [decide_eq_true_eq]; omega)
      · have hlen := pauseFin_len f
        refine loop_intro (fun k : Nat => ⟨[(3, .sl 1 0 S.length cap), (4, .sl 2 0 L.length cap'), (5, .i .i64 f), (6, .i .i64 r), (7, .i .i64 k)], [.ro (encByte.row C), .rw ty_impl_Task (encTask.row S) (cap * 3), .rw ty_impl_Job (encJob.row L) (cap' * 4)]⟩)
          (fun k => k ≤ 300) (fun k => 300 - k) 0 (by omega) (Wk.pick [0, 1, 2]) fun k hk => ?_
        simp only [l0_laws_FnSlack, not_true_eq_false, not_false_eq_true, decide_true, decide_false, Bool.not_true, Bool.not_false, false_implies, true_implies, and_true, true_and, Bool.false_eq_true, Bool.true_eq_false, implies_true, Bool.not_not, Classical.not_not, go_sem, Int.reduceToNat, List.take_nil, Nat.zero_mul, Nat.reduceEqDiff, Nat.reduceAdd, Nat.reduceLT, Nat.reduceLeDiff, Nat.reduceMul, ↓reduceIte, reduceCtorEq]
        refine ⟨fun hle => ?_, fun hgt => ?_⟩
        · have hF := hlen k L
          refine impl_RunPaused_ (S := S) (L := L) (f := f) (n := k) (by omega) (by omega) (Rd.own rfl) (Rd.own rfl) (fun hno => absurd ⟨hv, ⟨hf0, hf.2⟩, by omega, by omega⟩ hno) (fun _ c1 c2 => ?_)
          simp only [go_sem, Int.reduceToNat, List.take_nil, Nat.zero_mul, Nat.reduceEqDiff, Nat.reduceAdd, Nat.reduceLT, Nat.reduceLeDiff, Nat.reduceMul, ↓reduceIte, reduceCtorEq]
          refine impl_Missed_ (L := L) (fin := pauseFin f k L) (by omega) hF (Rd.own rfl) (Rd.len' rfl hF) (fun e => ?_) (fun e cM => absurd (s2 k (by omega) hle) e)
          simp only [not_true_eq_false, not_false_eq_true, decide_true, decide_false, Bool.not_true, Bool.not_false, false_implies, true_implies, and_true, true_and, Bool.false_eq_true, Bool.true_eq_false, implies_true, Bool.not_not, Classical.not_not, go_sem, Int.reduceToNat, List.take_nil, Nat.zero_mul, Nat.reduceEqDiff, Nat.reduceAdd, Nat.reduceLT, Nat.reduceLeDiff, Nat.reduceMul, ↓reduceIte, reduceCtorEq]
          have ht : r.tdiv 8 = r / 8 := Int.tdiv_eq_ediv_of_nonneg (by omega)
          rw [ht]
          refine ⟨fun h => absurd h (by decide), fun _ => ⟨by omega, by decide, by omega, by omega, k + 1 + (r / 8).toNat, by omega, ?_⟩⟩
          rw [show ((k + 1 + (r / 8).toNat : Nat) : Int) = k + 1 + r / 8 by omega]
          exact Wk.pick [0, 1, 2]
        · have hF := hlen r L
          have hr0 := s2 r (by omega) (by omega)
          refine impl_RunPaused_ (S := S) (L := L) (f := f) (n := r) (by omega) (by omega) (Rd.own rfl) (Rd.own rfl) (fun hno => absurd ⟨hv, ⟨hf0, hf.2⟩, by omega, by omega⟩ hno) (fun _ c1 c2 => ?_)
          simp only [go_sem, Int.reduceToNat, List.take_nil, Nat.zero_mul, Nat.reduceEqDiff, Nat.reduceAdd, Nat.reduceLT, Nat.reduceLeDiff, Nat.reduceMul, ↓reduceIte, reduceCtorEq]
          refine impl_Missed_ (L := L) (fin := pauseFin f r L) (by omega) hF (Rd.own rfl) (Rd.len' rfl hF) (fun e => ?_) (fun e cM => absurd hr0 e)
          simp only [not_true_eq_false, not_false_eq_true, decide_true, decide_false, Bool.not_true, Bool.not_false, false_implies, true_implies, and_true, true_and, Bool.false_eq_true, Bool.true_eq_false, implies_true, Bool.not_not, Classical.not_not, go_sem, Int.reduceToNat, List.take_nil, Nat.zero_mul, Nat.reduceEqDiff, Nat.reduceAdd, Nat.reduceLT, Nat.reduceLeDiff, Nat.reduceMul, ↓reduceIte, reduceCtorEq]
          refine ⟨fun e2 => ?_, fun e2 => ?_⟩
          · have hF1 := hlen (r + 1) L
            have hr1 := s3 (by omega)
            refine ⟨by omega, ?_⟩
            refine impl_RunPaused_ (S := S) (L := L) (f := f) (n := r + 1) (by omega) (by omega) (Rd.own rfl) (Rd.own rfl) (fun hno => absurd ⟨hv, ⟨hf0, hf.2⟩, by omega, by omega⟩ hno) (fun _ c1 c2 => ?_)
            simp only [go_sem, Int.reduceToNat, List.take_nil, Nat.zero_mul, Nat.reduceEqDiff, Nat.reduceAdd, Nat.reduceLT, Nat.reduceLeDiff, Nat.reduceMul, ↓reduceIte, reduceCtorEq]
            refine impl_Missed_ (L := L) (fin := pauseFin f (r + 1) L) (by omega) hF1 (Rd.own rfl) (Rd.len' rfl hF1) (fun e => absurd e hr1) (fun e cM => ?_)
            have := List.length_pos_iff.2 e
            simp only [not_true_eq_false, not_false_eq_true, decide_true, decide_false, Bool.not_true, Bool.not_false, false_implies, true_implies, and_true, true_and, Bool.false_eq_true, Bool.true_eq_false, implies_true, Bool.not_not, Classical.not_not, go_sem, Int.reduceToNat, List.take_nil, Nat.zero_mul, Nat.reduceEqDiff, Nat.reduceAdd, Nat.reduceLT, Nat.reduceLeDiff, Nat.reduceMul, ↓reduceIte, reduceCtorEq]
            exact Fin.plain (by congr 1; simp only [decide_eq_true_eq]; omega)
          · exact Fin.plain rfl
    · simp only [hv, not_true_eq_false, not_false_eq_true, decide_true, decide_false, Bool.not_true, Bool.not_false, false_implies, true_implies, and_true, true_and, Bool.false_eq_true, Bool.true_eq_false, implies_true, Bool.not_not, Classical.not_not, go_sem, Int.reduceToNat, List.take_nil, Nat.zero_mul, Nat.reduceEqDiff, Nat.reduceAdd, Nat.reduceLT, Nat.reduceLeDiff, Nat.reduceMul, ↓reduceIte, reduceCtorEq]
      have e := hno fun h => hf0 h.2.1
      subst e
      refine ⟨fun h => absurd h (by omega), fun _ => ⟨fun _ => laws_alive_ ?_, fun h => absurd rfl h⟩⟩
      simp only [not_true_eq_false, not_false_eq_true, decide_true, decide_false, Bool.not_true, Bool.not_false, false_implies, true_implies, and_true, true_and, Bool.false_eq_true, Bool.true_eq_false, implies_true, Bool.not_not, Classical.not_not, go_sem, Int.reduceToNat, List.take_nil, Nat.zero_mul, Nat.reduceEqDiff, Nat.reduceAdd, Nat.reduceLT, Nat.reduceLeDiff, Nat.reduceMul, ↓reduceIte, reduceCtorEq]
      exact Fin.plain rfl
  · simp only [hv, not_true_eq_false, not_false_eq_true, decide_true, decide_false, Bool.not_true, Bool.not_false, false_implies, true_implies, and_true, true_and, Bool.false_eq_true, Bool.true_eq_false, implies_true, Bool.not_not, Classical.not_not, go_sem, Int.reduceToNat, List.take_nil, Nat.zero_mul, Nat.reduceEqDiff, Nat.reduceAdd, Nat.reduceLT, Nat.reduceLeDiff, Nat.reduceMul, ↓reduceIte, reduceCtorEq]
    have e := hno fun h => hv h.1
    subst e
    refine ⟨fun _ => laws_alive_ ?_, fun h => absurd rfl h⟩
    simp only [not_true_eq_false, not_false_eq_true, decide_true, decide_false, Bool.not_true, Bool.not_false, false_implies, true_implies, and_true, true_and, Bool.false_eq_true, Bool.true_eq_false, implies_true, Bool.not_not, Classical.not_not, go_sem, Int.reduceToNat, List.take_nil, Nat.zero_mul, Nat.reduceEqDiff, Nat.reduceAdd, Nat.reduceLT, Nat.reduceLeDiff, Nat.reduceMul, ↓reduceIte, reduceCtorEq]
    exact Fin.plain rfl
theorem c_FnSlack (C : List Nat) (c : Nat) (hC : ∀ x ∈ C, x < 256) (_ : C.length * 1 ≤ 140737488351232) (hc : C.length ≤ c) :
    CallWp Try.prog n_laws_FnSlack [.sl 0 0 C.length c] [.ro (encByte.row C)] (fun x _ => x = .b true) := laws_FnSlack0 C hC c hc
end Go.Proofs.Ytdmoafmgeipenaa
