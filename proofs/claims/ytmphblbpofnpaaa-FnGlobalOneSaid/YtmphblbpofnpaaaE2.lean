import Derived.Test.YtmphblbpofnpaaaE1
namespace Go.Proofs.Ytmphblbpofnpaaa
open Go.Abs Go.Ds
set_option linter.unusedSimpArgs false
set_option linter.unusedVariables false
set_option maxRecDepth 20000
theorem impl_JobsLegal_3_ {σ : List AB} {x : Nat × Nat} {S : List Task} (h : Cap encTask σ x S) (hS : setOk S) (j : Job) (h0 : 0 ≤ j.T) (h1 : j.T < S.length) (hR : 0 ≤ j.R ∧ j.R ≤ 119) {K : AV → List AB → Prop} (hk : K (.b (decide (j.D ≠ j.R + (gT S j.T).D))) σ) :
    CallWp Try.prog n_impl_JobsLegal_3 [.agg (encJob.f j), .p x.1 x.2] σ K := by
  obtain ⟨cs, n, c, e1, e2, e3, e4⟩ := h
  have ht : j.T.toNat < S.length := by omega
  have t1 := gT_ok hS h0 h1
  unfold Task.ok at t1
  refine callC_impl_JobsLegal_3 (by simp) fun hC _ => ?_
  simp only [c_impl_JobsLegal_3, encJ, onC_of e1, onC_of e4, onC_old e1, onC_old e4, at_new, at_new0, e3, ht, go_sem, Int.reduceToNat, List.take_nil, Nat.zero_mul, Nat.reduceEqDiff, Nat.reduceAdd, Nat.reduceLT, Nat.reduceLeDiff, Nat.reduceMul, ↓reduceIte, reduceCtorEq, lenT, rdT0, rdT1, rdT2, winT, takeT, appT, splT, splI, winI, lenI, rdI, takeI, appI, ← gT_eq ht]
  refine ⟨e2, ⟨h0, h1⟩, by omega, by omega, ?_⟩
  exact Fin.drop hC (Nat.le_refl _) rfl hk
section
variable {f : Nat} {first caps : List (Nat × Nat)} {σ : List AB} {v : AV} {L : List Job} {K : AV → List AB → Prop}
theorem slices_IndexFunc_impl_Job_ (hs : L.length ≤ 1099511627776) (h : Rd encJob σ v L) (p : Job → Bool) (hp : ∀ t ∈ L, ∀ K : AV → List AB → Prop, K (.b (p t)) σ → CallWp Try.prog f (pAV first ++ [.agg (encJob.f t)] ++ pAV caps) σ K)
    (hk : K (.i .i64 (idxF p L)) σ) : CallWp Try.prog n_slices_IndexFunc_impl_Job [v, .fn f first caps] σ K := by
  refine call_slices_IndexFunc_impl_Job (by simp) ?_
  rcases h with ⟨n, o, cap, cs, rfl, hn, hc, hle, hw⟩ | ⟨rfl, rfl, h0⟩
  · simp only [c_slices_IndexFunc_impl_Job, go_sem, Int.reduceToNat, List.take_nil, Nat.zero_mul, Nat.reduceEqDiff, Nat.reduceAdd, Nat.reduceLT, Nat.reduceLeDiff, Nat.reduceMul, ↓reduceIte, reduceCtorEq]
    refine loop_count L.length (fun k => ⟨[(0, .sl n o L.length cap), (1, .fn f first caps), (7, .i .i64 L.length), (8, .i .i64 k)], σ⟩) (fun k => ∀ x ∈ L.take k, p x = false) (by simp) (Wk.keep (by simp [look_cons])) fun k hkl hJ => ?_
    simp only [l0_slices_IndexFunc_impl_Job, go_sem, Int.reduceToNat, List.take_nil, Nat.zero_mul, Nat.reduceEqDiff, Nat.reduceAdd, Nat.reduceLT, Nat.reduceLeDiff, Nat.reduceMul, ↓reduceIte, reduceCtorEq]
    refine ⟨fun h => ⟨by omega, ?_⟩, fun h => ?_⟩
    · obtain ⟨h1, h2⟩ := win_at hle hw k h
      simp only [encJob] at h1 h2
      rw [onC_of hc]
      refine ⟨h1, ?_⟩
      rw [h2]
      refine hp _ (List.getElem_mem _) _ ?_
      simp only [go_sem, Int.reduceToNat, List.take_nil, Nat.zero_mul, Nat.reduceEqDiff, Nat.reduceAdd, Nat.reduceLT, Nat.reduceLeDiff, Nat.reduceMul, ↓reduceIte, reduceCtorEq]
      refine bc_of (fun h3 => Fin.plain ?_) fun h3 => ⟨by omega, ⟨h, (all_take_succ h).2 ⟨hJ, h3⟩⟩, Wk.keep (by simp [look_cons])⟩
      rw [← idxF_found h hJ h3]; exact hk
    · have e : k = L.length := by omega
      subst e
      rw [List.take_length] at hJ
      refine Fin.plain ?_
      rw [← idxF_none hJ]; exact hk
  · simp only [c_slices_IndexFunc_impl_Job, go_sem, Int.reduceToNat, List.take_nil, Nat.zero_mul, Nat.reduceEqDiff, Nat.reduceAdd, Nat.reduceLT, Nat.reduceLeDiff, Nat.reduceMul, ↓reduceIte, reduceCtorEq]
    refine loop_count 0 (fun k => ⟨[(0, .sn), (1, .fn f first caps), (7, .i .i64 0), (8, .i .i64 k)], σ⟩) (fun k => k = 0) rfl (Wk.keep (by simp [look_cons])) fun k hkl hJ => ?_
    subst hJ
    simp only [l0_slices_IndexFunc_impl_Job, go_sem, Int.reduceToNat, List.take_nil, Nat.zero_mul, Nat.reduceEqDiff, Nat.reduceAdd, Nat.reduceLT, Nat.reduceLeDiff, Nat.reduceMul, ↓reduceIte, reduceCtorEq]
    refine ⟨fun h => ?_, fun h => Fin.plain ?_⟩
    · exact absurd h (by simp)
    · rw [← idxF_none (p := p) (L := []) (by simp)]; exact hk
theorem slices_ContainsFunc_impl_Job_ (hs : L.length ≤ 1099511627776) (h : Rd encJob σ v L) (p : Job → Bool) (hp : ∀ t ∈ L, ∀ K : AV → List AB → Prop, K (.b (p t)) σ → CallWp Try.prog f (pAV first ++ [.agg (encJob.f t)] ++ pAV caps) σ K)
    (hk : K (.b (decide (∃ x ∈ L, p x = true))) σ) : CallWp Try.prog n_slices_ContainsFunc_impl_Job [v, .fn f first caps] σ K := by
  refine call_slices_ContainsFunc_impl_Job (by simp) ?_
  simp only [c_slices_ContainsFunc_impl_Job, h.data, go_sem, Int.reduceToNat, List.take_nil, Nat.zero_mul, Nat.reduceEqDiff, Nat.reduceAdd, Nat.reduceLT, Nat.reduceLeDiff, Nat.reduceMul, ↓reduceIte, reduceCtorEq]
  refine slices_IndexFunc_impl_Job_ hs h p hp ?_
  simp only [go_sem, Int.reduceToNat, List.take_nil, Nat.zero_mul, Nat.reduceEqDiff, Nat.reduceAdd, Nat.reduceLT, Nat.reduceLeDiff, Nat.reduceMul, ↓reduceIte, reduceCtorEq]
  refine Fin.plain ?_
  rw [decide_eq_decide.2 idxF_any]; exact hk
end
theorem some_ne {L : List Job} {S : List Task} : (∃ j ∈ L, decide (j.D ≠ j.R + (gT S j.T).D) = true) ↔ ¬ ∀ j ∈ L, j.D = j.R + (gT S j.T).D := by
  simp
theorem impl_JobsLegal0 (S : List Task) (L : List Job) (hs : S.length ≤ 1048576) (hl : L.length ≤ 1048576) (c c' : Nat) : CallWp Try.prog n_impl_JobsLegal [.sl 0 0 S.length c, .sl 1 0 L.length c'] [.ro (encTask.row S), .ro (encJob.row L)]
    (fun x σ => x = .b (decide (jobsLegal S L)) ∧ σ = [.ro (encTask.row S), .ro (encJob.row L)]) := by
  refine call_impl_JobsLegal (by simp) ?_
  simp only [c_impl_JobsLegal, go_sem, Int.reduceToNat, List.take_nil, Nat.zero_mul, Nat.reduceEqDiff, Nat.reduceAdd, Nat.reduceLT, Nat.reduceLeDiff, Nat.reduceMul, ↓reduceIte, reduceCtorEq]
  have hcap : Cap encTask [.ro (encTask.row S), .ro (encJob.row L), .rw ty_sl_impl_Task [.sl 0 0 S.length c] 1] (2, 0) S := ⟨_, 0, c, rfl, by simp, rfl, rfl⟩
  refine impl_SetValid_ (L := S) (by omega) (Rd.own rfl) ?_
  simp only [not_true_eq_false, not_false_eq_true, decide_true, decide_false, Bool.not_true, Bool.not_false, false_implies, true_implies, and_true, true_and, Bool.false_eq_true, Bool.true_eq_false, implies_true, Bool.not_not, Classical.not_not, go_sem, Int.reduceToNat, List.take_nil, Nat.zero_mul, Nat.reduceEqDiff, Nat.reduceAdd, Nat.reduceLT, Nat.reduceLeDiff, Nat.reduceMul, ↓reduceIte, reduceCtorEq]
  refine ⟨fun h1 => ?_, fun h1 => Fin.same ?_⟩
  · refine impl_ordered_ (σ := [.ro (encTask.row S), .ro (encJob.row L), .rw ty_sl_impl_Task [.sl 0 0 S.length c] 1]) S.length (costOf S) rfl (by omega) (by omega) (fun t h0 h2 τ K hk => impl_JobsLegal_1_ (hcap.app τ) t h0 h2 hk) ?_
    simp only [h1, not_true_eq_false, not_false_eq_true, decide_true, decide_false, Bool.not_true, Bool.not_false, false_implies, true_implies, and_true, true_and, Bool.false_eq_true, Bool.true_eq_false, implies_true, Bool.not_not, Classical.not_not, go_sem, Int.reduceToNat, List.take_nil, Nat.zero_mul, Nat.reduceEqDiff, Nat.reduceAdd, Nat.reduceLT, Nat.reduceLeDiff, Nat.reduceMul, ↓reduceIte, reduceCtorEq]
    refine ⟨fun h2 => ?_, fun h2 => Fin.same ?_⟩
    · refine impl_spaced_ (σ := [.ro (encTask.row S), .ro (encJob.row L), .rw ty_sl_impl_Task [.sl 0 0 S.length c] 1]) Job.R (perOf S) rfl (by omega) (fun j hj => by have := h2.mem hj; have := h1.1; omega)
        (fun j hj τ K hk => impl_release_ j hk) (fun j hj τ K hk => impl_JobsLegal_2_ (hcap.app τ) j.T (h2.mem hj).1.1 (h2.mem hj).1.2 hk) ?_
      simp only [h1, h2, not_true_eq_false, not_false_eq_true, decide_true, decide_false, Bool.not_true, Bool.not_false, false_implies, true_implies, and_true, true_and, Bool.false_eq_true, Bool.true_eq_false, implies_true, Bool.not_not, Classical.not_not, go_sem, Int.reduceToNat, List.take_nil, Nat.zero_mul, Nat.reduceEqDiff, Nat.reduceAdd, Nat.reduceLT, Nat.reduceLeDiff, Nat.reduceMul, ↓reduceIte, reduceCtorEq]
      refine ⟨fun h3 => ?_, fun h3 => Fin.same ?_⟩
      · refine slices_ContainsFunc_impl_Job_ (L := L) (by omega) (Rd.own rfl) (fun j => decide (j.D ≠ j.R + (gT S j.T).D)) (fun j hj K hk => impl_JobsLegal_3_ hcap h1 j (h2.mem hj).1.1 (h2.mem hj).1.2 (h2.mem hj).2.1 hk) ?_
        simp only [h1, h2, not_true_eq_false, not_false_eq_true, decide_true, decide_false, Bool.not_true, Bool.not_false, false_implies, true_implies, and_true, true_and, Bool.false_eq_true, Bool.true_eq_false, implies_true, Bool.not_not, Classical.not_not, go_sem, Int.reduceToNat, List.take_nil, Nat.zero_mul, Nat.reduceEqDiff, Nat.reduceAdd, Nat.reduceLT, Nat.reduceLeDiff, Nat.reduceMul, ↓reduceIte, reduceCtorEq]
        refine Fin.same ?_
        congr 1; apply decide_eq_decide.2
        rw [some_ne]
        exact ⟨fun h => ⟨h1, h2, h3, Classical.not_not.1 h⟩, fun h hn => hn h.2.2.2⟩
      · congr 1; symm; apply decide_eq_false
        exact fun hh => h3 hh.2.2.1
    · congr 1; symm; apply decide_eq_false
      exact fun hh => h2 hh.2.1
  · congr 1; symm; apply decide_eq_false
    exact fun hh => h1 hh.1
theorem impl_JobsLegal_ {S : List Task} {L : List Job} (hs : S.length ≤ 1048576) (hl : L.length ≤ 1048576) {v u : AV} {σ : List AB} (h : Rd encTask σ v S) (h' : Rd encJob σ u L) {K : AV → List AB → Prop} (hk : K (.b (decide (jobsLegal S L))) σ) : CallWp Try.prog n_impl_JobsLegal [v, u] σ K :=
  call_rds _ (rds_cons h.r (rds1 h'.r)) (fun c => [.sl 0 0 S.length (c 0), .sl 1 0 L.length (c 1)]) (fun c => impl_JobsLegal0 S L hs hl (c 0) (c 1)) (fun ν c h => ⟨h.1, h.2.1, trivial⟩) (fun _ => rfl) rfl hk
end Go.Proofs.Ytmphblbpofnpaaa
