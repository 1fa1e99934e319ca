import Derived.Test.YtdmoafmgeipenaaS12
import Derived.Test.YtdmoafmgeipenaaS15
namespace Go.Proofs.Ytdmoafmgeipenaa
open Go.Abs Go.Ds
set_option linter.unusedSimpArgs false
set_option linter.unusedVariables false
set_option maxRecDepth 20000
set_option maxHeartbeats 1000000
def pm (L : List Job) (f n : Int) : List Int := missedL L (pauseFin f n L)
def outside (f n : Int) (t : Nat) : Bool := decide (¬ (f ≤ (t : Int) ∧ (t : Int) < f + n))
theorem pause_on (f n : Int) (L : List Job) : EdfOn (outside f n) L (pausePick f n L) := fun now done => by
  unfold pausePick outside
  by_cases h : f ≤ (now : Int) ∧ (now : Int) < f + n
  · rw [if_pos h, if_neg (by simp [h])]
  · rw [if_neg h, if_pos (decide_eq_true h)]
theorem pm_mono {S : List Task} {L : List Job} (h : jobsLegal S L) {f n n' : Int} (hn : n ≤ n') (hm : pm L f n' = []) : pm L f n = [] :=
  edf_best (A := outside f n') (B := outside f n) (pause_fair f n' L) (pause_on f n' L).only (pause_on f n L) (fun t _ ht => by
    unfold outside at ht ⊢
    rw [decide_eq_true_iff] at ht ⊢
    omega) (fun j hj => (h.2.1.mem hj).2.2.1) (fun j hj => (h.2.1.mem hj).2.1.1) (fun j hj => by
    have h1 := h.2.1.mem hj
    have h2 := h.2.2.2 j hj
    have h3 := gT_ok h.1 h1.1.1 h1.1.2
    unfold Task.ok at h3
    omega) hm
def SlackV (L : List Job) (f s : Int) : Prop := (-1 ≤ s ∧ s ≤ 120) ∧ (∀ k : Int, 0 ≤ k → k ≤ s → pm L f k = []) ∧ (s < 120 → pm L f (s + 1) ≠ [])
theorem SlackV.same {L : List Job} {f s s' : Int} (h : SlackV L f s) (h' : SlackV L f s') : s = s' := by
  obtain ⟨h1, h2, h3⟩ := h
  obtain ⟨g1, g2, g3⟩ := h'
  rcases Int.lt_trichotomy s s' with e | e | e
  · exact absurd (g2 (s + 1) (by omega) (by omega)) (h3 (by omega))
  · exact e
  · exact absurd (h2 (s' + 1) (by omega) (by omega)) (g3 (by omega))
def slackOk (S : List Task) (L : List Job) (f : Int) : Prop := jobsLegal S L ∧ 0 ≤ f ∧ f ≤ 120
def SlackP (S : List Task) (L : List Job) (f : Int) (x : AV) (τ : List AB) : Prop := τ = [] ∧ ((¬ slackOk S L f ∧ x = .i .i64 (-1)) ∨ (slackOk S L f ∧ ∃ s, SlackV L f s ∧ x = .i .i64 s))
theorem SlackP.fr {S : List Task} {L : List Job} {f : Int} {N : Nat} {x : AV} {τ : List AB} (h : SlackP S L f x τ) : τ.all plainRw = true ∧ freshA N x = true := by
  rcases h with ⟨rfl, ⟨_, rfl⟩ | ⟨_, s, _, rfl⟩⟩ <;> exact ⟨rfl, rfl⟩
theorem slack_facts {S : List Task} {L : List Job} (h : jobsLegal S L) : L.length ≤ 60 ∧ ∀ j ∈ L, 0 ≤ j.E ∧ j.E ≤ 1000 := ⟨h.2.1.1, fun j hj => by
  have h2 := h.2.1.mem hj
  have t1 := gT_ok h.1 h2.1.1 h2.1.2
  unfold Task.ok at t1
  have h3 : costOf S j.T = (gT S j.T).C := rfl
  omega⟩
theorem pauseFin_len (f n : Int) (L : List Job) : (pauseFin f n L).length = L.length := (simU_lens 120).2.1
theorem impl_Slack0 (S : List Task) (L : List Job) (f : Int) (hs : S.length ≤ 1048576) (hl : L.length ≤ 1048576) (c c' : Nat) : CallWp Try.prog n_impl_Slack [.sl 0 0 S.length c, .sl 1 0 L.length c', .i .i64 f] [.ro (encTask.row S), .ro (encJob.row L)]
    (fun x σ' => ∃ τ, σ' = [.ro (encTask.row S), .ro (encJob.row L)] ++ τ ∧ SlackP S L f x τ) := by
  refine call_impl_Slack (by simp) ?_
  simp only [c_impl_Slack, go_sem, Int.reduceToNat, List.take_nil, Nat.zero_mul, Nat.reduceEqDiff, Nat.reduceAdd, Nat.reduceLT, Nat.reduceLeDiff, Nat.reduceMul, ↓reduceIte, reduceCtorEq]
  refine impl_JobsLegal_ (S := S) (L := L) (by omega) (by omega) (Rd.own rfl) (Rd.own rfl) ?_
  simp only [not_true_eq_false, not_false_eq_true, decide_true, decide_false, Bool.not_true, Bool.not_false, false_implies, true_implies, and_true, true_and, Bool.false_eq_true, Bool.true_eq_false, implies_true, Bool.not_not, Classical.not_not, go_sem, Int.reduceToNat, List.take_nil, Nat.zero_mul, Nat.reduceEqDiff, Nat.reduceAdd, Nat.reduceLT, Nat.reduceLeDiff, Nat.reduceMul, ↓reduceIte, reduceCtorEq]
  have no : ¬ slackOk S L f → Fin 2 [.ro (encTask.row S), .ro (encJob.row L)] (.i .i64 (-1)) (fun x σ' => ∃ τ, σ' = .ro (encTask.row S) :: .ro (encJob.row L) :: τ ∧ SlackP S L f x τ) := fun hno =>
    Fin.plain ⟨[], rfl, rfl, .inl ⟨hno, rfl⟩⟩
  refine ⟨fun h1 => impl_in_ _ _ _ ?_, fun h1 => no fun h => h1 h.1⟩
  simp only [not_true_eq_false, not_false_eq_true, decide_true, decide_false, Bool.not_true, Bool.not_false, false_implies, true_implies, and_true, true_and, Bool.false_eq_true, Bool.true_eq_false, implies_true, Bool.not_not, Classical.not_not, go_sem, Int.reduceToNat, List.take_nil, Nat.zero_mul, Nat.reduceEqDiff, Nat.reduceAdd, Nat.reduceLT, Nat.reduceLeDiff, Nat.reduceMul, ↓reduceIte, reduceCtorEq]
  refine ⟨fun h2 => no fun h => h2 h.2, fun h2 => ?_⟩
  obtain ⟨h60, hE⟩ := slack_facts h1
  refine loop_count 121 (fun k => ⟨[(1, .sl 1 0 L.length c'), (2, .i .i64 f), (7, .i .i64 (120 - (k : Int)))], [.ro (encTask.row S), .ro (encJob.row L)]⟩) (fun k => ∀ n : Int, 120 - (k : Int) < n → n ≤ 120 → pm L f n ≠ []) (fun n hn hn2 => by omega) (Wk.keep (by simp [look_cons])) fun k hk hJ => ?_
  simp only [l0_impl_Slack, not_true_eq_false, not_false_eq_true, decide_true, decide_false, Bool.not_true, Bool.not_false, false_implies, true_implies, and_true, true_and, Bool.false_eq_true, Bool.true_eq_false, implies_true, Bool.not_not, Classical.not_not, go_sem, Int.reduceToNat, List.take_nil, Nat.zero_mul, Nat.reduceEqDiff, Nat.reduceAdd, Nat.reduceLT, Nat.reduceLeDiff, Nat.reduceMul, ↓reduceIte, reduceCtorEq]
  refine ⟨fun hge => ?_, fun hlt => ?_⟩
  · have hF := pauseFin_len f (120 - (k : Int)) L
    refine impl_pause_ (L := L) (f := f) (n := 120 - (k : Int)) rfl (by omega) (by omega) (by omega) fun c1 c2 => ?_
    simp only [not_true_eq_false, not_false_eq_true, decide_true, decide_false, Bool.not_true, Bool.not_false, false_implies, true_implies, and_true, true_and, Bool.false_eq_true, Bool.true_eq_false, implies_true, Bool.not_not, Classical.not_not, go_sem, Int.reduceToNat, List.take_nil, Nat.zero_mul, Nat.reduceEqDiff, Nat.reduceAdd, Nat.reduceLT, Nat.reduceLeDiff, Nat.reduceMul, ↓reduceIte, reduceCtorEq]
    refine impl_Missed_ (L := L) (fin := pauseFin f (120 - (k : Int)) L) (by omega) hF (Rd.own rfl) (Rd.len' rfl hF) (fun e => ?_) (fun e cM => ?_)
    · have e' : pm L f (120 - (k : Int)) = [] := e
      have hsv : SlackV L f (120 - (k : Int)) := ⟨by omega, fun n _ hn => pm_mono h1 hn e', fun _ => hJ _ (by omega) (by omega)⟩
      simp only [not_true_eq_false, not_false_eq_true, decide_true, decide_false, Bool.not_true, Bool.not_false, false_implies, true_implies, and_true, true_and, Bool.false_eq_true, Bool.true_eq_false, implies_true, Bool.not_not, Classical.not_not, go_sem, Int.reduceToNat, List.take_nil, Nat.zero_mul, Nat.reduceEqDiff, Nat.reduceAdd, Nat.reduceLT, Nat.reduceLeDiff, Nat.reduceMul, ↓reduceIte, reduceCtorEq]
      exact Fin.pick [0, 1] (.i .i64 (120 - (k : Int))) [.ro (encTask.row S), .ro (encJob.row L)] ⟨[], rfl, rfl, .inr ⟨⟨h1, h2⟩, _, hsv, rfl⟩⟩
    · have hne : ¬ ((missedL L (pauseFin f (120 - (k : Int)) L)).length : Int) = 0 := by
        have := List.length_pos_iff.2 e
        omega
      simp only [hne, not_true_eq_false, not_false_eq_true, decide_true, decide_false, Bool.not_true, Bool.not_false, false_implies, true_implies, and_true, true_and, Bool.false_eq_true, Bool.true_eq_false, implies_true, Bool.not_not, Classical.not_not, go_sem, Int.reduceToNat, List.take_nil, Nat.zero_mul, Nat.reduceEqDiff, Nat.reduceAdd, Nat.reduceLT, Nat.reduceLeDiff, Nat.reduceMul, ↓reduceIte, reduceCtorEq]
      rw [show (120 : Int) - ((k + 1 : Nat) : Int) = 120 - (k : Int) - 1 by omega]
      refine ⟨by omega, ⟨by omega, fun n hn hn2 => ?_⟩, Wk.pick [0, 1]⟩
      by_cases e2 : n = 120 - (k : Int)
      · rw [e2]; exact e
      · exact hJ n (by omega) hn2
  · have hsv : SlackV L f (-1) := ⟨by omega, fun n h0 hn => by omega, fun _ => by
      have := hJ 0 (by omega) (by omega)
      rwa [show (-1 : Int) + 1 = 0 by omega]⟩
    exact Fin.plain ⟨[], rfl, rfl, .inr ⟨⟨h1, h2⟩, _, hsv, rfl⟩⟩
section
variable {S : List Task} {L : List Job} {f : Int} {v u : AV} {σ : List AB} {K : AV → List AB → Prop}
theorem impl_Slack_ (hs : S.length ≤ 1048576) (hl : L.length ≤ 1048576) (h : Rd encTask σ v S) (h' : Rd encJob σ u L) (hn : ¬ slackOk S L f → K (.i .i64 (-1)) σ) (hy : slackOk S L f → ∀ s, SlackV L f s → K (.i .i64 s) σ) : CallWp Try.prog n_impl_Slack [v, u, .i .i64 f] σ K := by
  refine call_news _ (rds_cons h.r (rds1 h'.r)) (fun c => [.sl 0 0 S.length (c 0), .sl 1 0 L.length (c 1), .i .i64 f]) (SlackP S L f) (fun c => impl_Slack0 S L f hs hl (c 0) (c 1)) (fun _ _ h => h.fr) (fun ν c h => ⟨h.1, h.2.1, .inl rfl, trivial⟩) (fun _ => rfl) ?_
  rintro x τ ⟨rfl, ⟨hno, rfl⟩ | ⟨hyes, s, hs, rfl⟩⟩
  · rw [List.append_nil]; exact hn hno
  · rw [List.append_nil]; exact hy hyes s hs
end
end Go.Proofs.Ytdmoafmgeipenaa
