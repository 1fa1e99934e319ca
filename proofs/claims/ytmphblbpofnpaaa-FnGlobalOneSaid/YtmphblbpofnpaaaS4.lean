import Derived.Test.YtmphblbpofnpaaaS3
import Derived.Test.YtmphblbpofnpaaaAbsY
import Derived.Test.YtmphblbpofnpaaaC2
namespace Go.Proofs.Ytmphblbpofnpaaa
open Go.Abs Go.Ds
set_option linter.unusedSimpArgs false
set_option linter.unusedVariables false
set_option maxRecDepth 20000
def SchedP (N : Nat) (ok : Prop) (run fin : List Int) (len : Nat) (x : AV) (τ : List AB) : Prop :=
  (¬ ok ∧ x = .agg [.sn, .sn] ∧ τ = []) ∨ (ok ∧ ∃ c1 c2, x = .agg [.sl N 0 120 c1, .sl (N + 1) 0 len c2] ∧ τ = [.rw ty_int (encInt.row run) c1, .rw ty_int (encInt.row fin) c2])
theorem SchedP.fr {N : Nat} {ok : Prop} {run fin : List Int} {len : Nat} {x : AV} {τ : List AB} (h : SchedP N ok run fin len x τ) : τ.all plainRw = true ∧ freshA N x = true := by
  rcases h with ⟨_, rfl, rfl⟩ | ⟨_, c1, c2, rfl, rfl⟩
  · exact ⟨rfl, rfl⟩
  · simp [plainRw, encInt.row_flat, freshA, fresh1A, freshC]
def edfRun (L : List Job) : List Int := (simU L (edfPick L) 120).run
def edfFin (L : List Job) : List Int := (simU L (edfPick L) 120).fin
theorem impl_RunEdf0 (S : List Task) (L : List Job) (hs : S.length ≤ 1048576) (hl : L.length ≤ 1048576) (c c' : Nat) : CallWp Try.prog n_impl_RunEdf [.sl 0 0 S.length c, .sl 1 0 L.length c'] [.ro (encTask.row S), .ro (encJob.row L)]
    (fun x σ' => ∃ τ, σ' = [.ro (encTask.row S), .ro (encJob.row L)] ++ τ ∧ SchedP 2 (jobsLegal S L) (edfRun L) (edfFin L) L.length x τ) := by
  refine call_impl_RunEdf (by simp) ?_
  simp only [c_impl_RunEdf, go_sem, Int.reduceToNat, List.take_nil, Nat.zero_mul, Nat.reduceEqDiff, Nat.reduceAdd, Nat.reduceLT, Nat.reduceLeDiff, Nat.reduceMul, ↓reduceIte, reduceCtorEq]
  refine impl_JobsLegal_ (S := S) (L := L) (by omega) (by omega) (Rd.own rfl) (Rd.own rfl) ?_
  simp only [not_true_eq_false, not_false_eq_true, decide_true, decide_false, Bool.not_true, Bool.not_false, false_implies, true_implies, and_true, true_and, Bool.false_eq_true, Bool.true_eq_false, implies_true, Bool.not_not, Classical.not_not, go_sem, Int.reduceToNat, List.take_nil, Nat.zero_mul, Nat.reduceEqDiff, Nat.reduceAdd, Nat.reduceLT, Nat.reduceLeDiff, Nat.reduceMul, ↓reduceIte, reduceCtorEq]
  refine ⟨fun h1 => ?_, fun h1 => ?_⟩
  · exact Fin.pick [0, 1] (.agg [.sn, .sn]) _ ⟨[], rfl, .inl ⟨h1, rfl, rfl⟩⟩
  · have h60 := h1.2.1.1
    refine impl_simulate_ (L := L) (edfPick L) rfl (by omega) (fun τ m done now hn hm K hk => impl_edf_ hm (by omega) hk) (fun now done => bestF_range _ _ _) fun c1 c2 => ?_
    simp only [go_sem, Int.reduceToNat, List.take_nil, Nat.zero_mul, Nat.reduceEqDiff, Nat.reduceAdd, Nat.reduceLT, Nat.reduceLeDiff, Nat.reduceMul, ↓reduceIte, reduceCtorEq]
    exact Fin.pick [0, 1, 3, 4] (.agg [.sl 2 0 120 c1, .sl 3 0 L.length c2]) _ ⟨_, rfl, .inr ⟨h1, c1, c2, rfl, rfl⟩⟩
theorem impl_RunEdf_ {S : List Task} {L : List Job} (hs : S.length ≤ 1048576) (hl : L.length ≤ 1048576) {v u : AV} {σ : List AB} (h : Rd encTask σ v S) (h' : Rd encJob σ u L) {K : AV → List AB → Prop} (hn : ¬ jobsLegal S L → K (.agg [.sn, .sn]) σ)
    (hy : jobsLegal S L → ∀ c1 c2, K (.agg [.sl σ.length 0 120 c1, .sl (σ.length + 1) 0 L.length c2]) (σ ++ [.rw ty_int (encInt.row (edfRun L)) c1, .rw ty_int (encInt.row (edfFin L)) c2])) : CallWp Try.prog n_impl_RunEdf [v, u] σ K := by
  refine call_news _ (rds_cons h.r (rds1 h'.r)) (fun c => [.sl 0 0 S.length (c 0), .sl 1 0 L.length (c 1)]) (SchedP 2 (jobsLegal S L) (edfRun L) (edfFin L) L.length) (fun c => impl_RunEdf0 S L hs hl (c 0) (c 1)) (fun _ _ h => h.fr) (fun ν c h => ⟨h.1, h.2.1, trivial⟩) (fun _ => rfl) ?_
  rintro x τ (⟨hno, rfl, rfl⟩ | ⟨hyes, c1, c2, rfl, rfl⟩)
  · rw [List.append_nil]; exact hn hno
  · exact hy hyes c1 c2
end Go.Proofs.Ytmphblbpofnpaaa
