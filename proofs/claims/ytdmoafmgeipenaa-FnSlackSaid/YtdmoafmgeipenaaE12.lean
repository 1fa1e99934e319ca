/- The law FnExactSlack answers true: over the abstract heap. -/
import Derived.Test.YtdmoafmgeipenaaS16
import Derived.Test.YtdmoafmgeipenaaE5
namespace Go.Proofs.Ytdmoafmgeipenaa
open Go.Abs Go.Ds
set_option linter.unusedSimpArgs false
set_option linter.unusedVariables false
set_option maxRecDepth 20000
set_option maxHeartbeats 2000000

/-- Both give the same number. -/
theorem slack_both (S : List Task) (L : List Job) (f : Int) (hs : S.length ≤ 1048576) (hl : L.length ≤ 1048576) : ∃ r : Int,
    (∀ {v u : AV} {σ : List AB} {K : AV → List AB → Prop}, Rd encTask σ v S → Rd encJob σ u L → K (.i .i64 r) σ → CallWp Try.prog n_impl_Slack [v, u, .i .i64 f] σ K) ∧
    (∀ {v u : AV} {σ : List AB} {K : AV → List AB → Prop}, Rd encTask σ v S → Rd encJob σ u L → K (.i .i64 r) σ → CallWp Try.prog n_spec_Slack [v, u, .i .i64 f] σ K) ∧
    (¬ slackOk S L f → r = -1) ∧ (slackOk S L f → (∃ s, SlackV L f s) → SlackV L f r) := by
  by_cases hv : slackOk S L f
  · by_cases hex : ∃ s, SlackV L f s
    · obtain ⟨s, h⟩ := hex
      refine ⟨s, fun h1 h2 hk => impl_Slack_ hs hl h1 h2 (fun hno => absurd hv hno) fun _ s' h' => ?_, fun h1 h2 hk => spec_Slack_ hs hl h1 h2 (fun hno => absurd hv hno) fun _ s' h' => ?_, fun hno => absurd hv hno, fun _ _ => h⟩
      · rw [h'.same h]; exact hk
      · rw [h'.same h]; exact hk
    · exact ⟨0, fun h1 h2 hk => impl_Slack_ hs hl h1 h2 (fun hno => absurd hv hno) fun _ s' h' => absurd ⟨s', h'⟩ hex, fun h1 h2 hk => spec_Slack_ hs hl h1 h2 (fun hno => absurd hv hno) fun _ s' h' => absurd ⟨s', h'⟩ hex, fun hno => absurd hv hno, fun _ he => absurd he hex⟩
  · exact ⟨-1, fun h1 h2 hk => impl_Slack_ hs hl h1 h2 (fun _ => hk) fun h => absurd h hv, fun h1 h2 hk => spec_Slack_ hs hl h1 h2 (fun _ => hk) fun h => absurd h hv, fun _ => rfl, fun h => absurd h hv⟩

theorem laws_FnExactSlack0 (S : List Task) (L : List Job) (f : Int) (hS : S.length ≤ 4611686018427387904) (hL : L.length ≤ 4611686018427387904) (c c' : Nat) : CallWp Try.prog n_laws_FnExactSlack [.sl 0 0 S.length c, .sl 1 0 L.length c', .i .i64 f] [.ro (encTask.row S), .ro (encJob.row L)] (fun x _ => x = .b true) := by
  refine call_laws_FnExactSlack (by simp) ?_
  simp only [c_laws_FnExactSlack, not_true_eq_false, not_false_eq_true, decide_true, decide_false, Bool.not_true, Bool.not_false, false_implies, true_implies, and_true, true_and, Bool.false_eq_true, Bool.true_eq_false, implies_true, Bool.not_not, Classical.not_not, go_sem, Int.reduceToNat, List.take_nil, Nat.zero_mul, Nat.reduceEqDiff, Nat.reduceAdd, Nat.reduceLT, Nat.reduceLeDiff, Nat.reduceMul, ↓reduceIte, reduceCtorEq]
  refine laws_szTaskS_ hS (by omega) (Rd.own rfl) ?_
  simp only [not_true_eq_false, not_false_eq_true, decide_true, decide_false, Bool.not_true, Bool.not_false, false_implies, true_implies, and_true, true_and, Bool.false_eq_true, Bool.true_eq_false, implies_true, Bool.not_not, Classical.not_not, go_sem, Int.reduceToNat, List.take_nil, Nat.zero_mul, Nat.reduceEqDiff, Nat.reduceAdd, Nat.reduceLT, Nat.reduceLeDiff, Nat.reduceMul, ↓reduceIte, reduceCtorEq]
  refine ⟨fun h1 => Fin.plain rfl, fun h1 => ?_⟩
  have hl : S.length ≤ 1048576 := by split at h1 <;> omega
  have hsz : (if (1048576 : Int) < S.length then -1 else 1048576 - (S.length : Int)) = 1048576 - (S.length : Int) := if_neg (by omega)
  simp only [hsz]
  refine laws_szJobS_ hL (by omega) (Rd.own rfl) ?_
  simp only [not_true_eq_false, not_false_eq_true, decide_true, decide_false, Bool.not_true, Bool.not_false, false_implies, true_implies, and_true, true_and, Bool.false_eq_true, Bool.true_eq_false, implies_true, Bool.not_not, Classical.not_not, go_sem, Int.reduceToNat, List.take_nil, Nat.zero_mul, Nat.reduceEqDiff, Nat.reduceAdd, Nat.reduceLT, Nat.reduceLeDiff, Nat.reduceMul, ↓reduceIte, reduceCtorEq]
  refine ⟨fun h2 => Fin.plain rfl, fun h2 => ?_⟩
  have hl2 : L.length ≤ 1048576 := by split at h2 <;> omega
  obtain ⟨r, hi, hp, _⟩ := slack_both S L f hl hl2
  refine laws_toTaskS_ (by omega) (Rd.own rfl) fun c1 => ?_
  simp only [go_sem, Int.reduceToNat, List.take_nil, Nat.zero_mul, Nat.reduceEqDiff, Nat.reduceAdd, Nat.reduceLT, Nat.reduceLeDiff, Nat.reduceMul, ↓reduceIte, reduceCtorEq]
  refine laws_toJobS_ (by omega) (Rd.own rfl) fun c2 => ?_
  simp only [go_sem, Int.reduceToNat, List.take_nil, Nat.zero_mul, Nat.reduceEqDiff, Nat.reduceAdd, Nat.reduceLT, Nat.reduceLeDiff, Nat.reduceMul, ↓reduceIte, reduceCtorEq]
  refine hp (Rd.own rfl) (Rd.own rfl) ?_
  simp only [go_sem, Int.reduceToNat, List.take_nil, Nat.zero_mul, Nat.reduceEqDiff, Nat.reduceAdd, Nat.reduceLT, Nat.reduceLeDiff, Nat.reduceMul, ↓reduceIte, reduceCtorEq]
  refine laws_toTaskS_ (by omega) (Rd.own rfl) fun c3 => ?_
  simp only [go_sem, Int.reduceToNat, List.take_nil, Nat.zero_mul, Nat.reduceEqDiff, Nat.reduceAdd, Nat.reduceLT, Nat.reduceLeDiff, Nat.reduceMul, ↓reduceIte, reduceCtorEq]
  refine laws_toJobS_ (by omega) (Rd.own rfl) fun c4 => ?_
  simp only [go_sem, Int.reduceToNat, List.take_nil, Nat.zero_mul, Nat.reduceEqDiff, Nat.reduceAdd, Nat.reduceLT, Nat.reduceLeDiff, Nat.reduceMul, ↓reduceIte, reduceCtorEq]
  refine hi (Rd.own rfl) (Rd.own rfl) ?_
  simp only [not_true_eq_false, not_false_eq_true, decide_true, decide_false, Bool.not_true, Bool.not_false, false_implies, true_implies, and_true, true_and, Bool.false_eq_true, Bool.true_eq_false, implies_true, Bool.not_not, Classical.not_not, go_sem, Int.reduceToNat, List.take_nil, Nat.zero_mul, Nat.reduceEqDiff, Nat.reduceAdd, Nat.reduceLT, Nat.reduceLeDiff, Nat.reduceMul, ↓reduceIte, reduceCtorEq]
  refine laws_toTaskS_ (by omega) (Rd.own rfl) fun c5 => ?_
  simp only [go_sem, Int.reduceToNat, List.take_nil, Nat.zero_mul, Nat.reduceEqDiff, Nat.reduceAdd, Nat.reduceLT, Nat.reduceLeDiff, Nat.reduceMul, ↓reduceIte, reduceCtorEq]
  refine laws_eqTaskS_ (by omega) (Rd.own rfl) (Rd.own rfl) ?_
  simp only [not_true_eq_false, not_false_eq_true, decide_true, decide_false, Bool.not_true, Bool.not_false, false_implies, true_implies, and_true, true_and, Bool.false_eq_true, Bool.true_eq_false, implies_true, Bool.not_not, Classical.not_not, go_sem, Int.reduceToNat, List.take_nil, Nat.zero_mul, Nat.reduceEqDiff, Nat.reduceAdd, Nat.reduceLT, Nat.reduceLeDiff, Nat.reduceMul, ↓reduceIte, reduceCtorEq]
  refine laws_toJobS_ (by omega) (Rd.own rfl) fun c6 => ?_
  simp only [go_sem, Int.reduceToNat, List.take_nil, Nat.zero_mul, Nat.reduceEqDiff, Nat.reduceAdd, Nat.reduceLT, Nat.reduceLeDiff, Nat.reduceMul, ↓reduceIte, reduceCtorEq]
  refine laws_eqJobS_ (by omega) (Rd.own rfl) (Rd.own rfl) ?_
  simp only [not_true_eq_false, not_false_eq_true, decide_true, decide_false, Bool.not_true, Bool.not_false, false_implies, true_implies, and_true, true_and, Bool.false_eq_true, Bool.true_eq_false, implies_true, Bool.not_not, Classical.not_not, go_sem, Int.reduceToNat, List.take_nil, Nat.zero_mul, Nat.reduceEqDiff, Nat.reduceAdd, Nat.reduceLT, Nat.reduceLeDiff, Nat.reduceMul, ↓reduceIte, reduceCtorEq]
  exact Fin.plain rfl

theorem c_FnExactSlack (S : List Task) (c : Nat) (L : List Job) (c' : Nat) (f : Int) (_ : ∀ x ∈ S, True) (y : S.length * 24 ≤ 140737488351232) (_ : S.length ≤ c) (_ : ∀ x ∈ L, True) (z : L.length * 32 ≤ 140737488351232) (_ : L.length ≤ c') :
    CallWp Try.prog n_laws_FnExactSlack [.sl 0 0 S.length c, .sl 1 0 L.length c', .i .i64 f] [.ro (encTask.row S), .ro (encJob.row L)] (fun x _ => x = .b true) := laws_FnExactSlack0 S L f (by omega) (by omega) c c'
end Go.Proofs.Ytdmoafmgeipenaa
