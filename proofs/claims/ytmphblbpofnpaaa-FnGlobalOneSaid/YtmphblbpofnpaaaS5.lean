import Derived.Test.YtmphblbpofnpaaaE2
namespace Go.Proofs.Ytmphblbpofnpaaa
open Go.Abs Go.Ds
set_option linter.unusedSimpArgs false
set_option linter.unusedVariables false
set_option maxRecDepth 20000
theorem encT' (t : Task) : encTask.f t = [.i .i64 t.C, .i .i64 t.D, .i .i64 t.P] := rfl
/-- What the reference asks of job k. -/
structure JobAt (S : List Task) (L : List Job) (k : Nat) (h : k < L.length) : Prop where
  row : jrowAt S.length (costOf S) L k h
  d : L[k].D = L[k].R + (gT S L[k].T).D
  gap : gapAt Job.R (perOf S) L k h
theorem JobAt.of {S : List Task} {L : List Job} (hl : jobsLegal S L) (k : Nat) (h : k < L.length) : JobAt S L k h :=
  ⟨hl.2.1.2 k h, hl.2.2.2 _ (List.getElem_mem h), hl.2.2.1 k h⟩
theorem jobsLegal_iff {S : List Task} {L : List Job} (h1 : setOk S) (h2 : L.length ≤ 60) : (∀ k (h : k < L.length), JobAt S L k h) → jobsLegal S L := by
  refine fun hh => ⟨h1, ⟨h2, fun k h => (hh k h).row⟩, fun k h => (hh k h).gap, fun j hj => ?_⟩
  obtain ⟨k, hk, rfl⟩ := List.getElem_of_mem hj
  exact (hh k hk).d
theorem spec_JobsLegal0 (S : List Task) (L : List Job) (hs : S.length ≤ 1048576) (hl : L.length ≤ 1048576) (c c3 : Nat) : CallWp Try.prog n_spec_JobsLegal [.sl 0 0 S.length c, .sl 1 0 L.length c3] [.ro (encTask.row S), .ro (encJob.row L)]
    (fun x σ => x = .b (decide (jobsLegal S L)) ∧ σ = [.ro (encTask.row S), .ro (encJob.row L)]) := by
  refine call_spec_JobsLegal (by simp) ?_
  simp only [c_spec_JobsLegal, go_sem, Int.reduceToNat, List.take_nil, Nat.zero_mul, Nat.reduceEqDiff, Nat.reduceAdd, Nat.reduceLT, Nat.reduceLeDiff, Nat.reduceMul, ↓reduceIte, reduceCtorEq]
  refine spec_SetValid_ (L := S) (by omega) (Rd.own rfl) ?_
  simp only [not_true_eq_false, not_false_eq_true, decide_true, decide_false, Bool.not_true, Bool.not_false, false_implies, true_implies, and_true, true_and, Bool.false_eq_true, Bool.true_eq_false, implies_true, Bool.not_not, Classical.not_not, go_sem, Int.reduceToNat, List.take_nil, Nat.zero_mul, Nat.reduceEqDiff, Nat.reduceAdd, Nat.reduceLT, Nat.reduceLeDiff, Nat.reduceMul, ↓reduceIte, reduceCtorEq]
  refine ⟨fun h1 => ⟨fun h2 => Fin.same ?_, fun h2 => ?_⟩, fun h1 => Fin.same ?_⟩
  · congr 1; symm; apply decide_eq_false
    intro hh; have := hh.2.1.1; omega
  · have hS := h1
    have h5 := hS.1
    refine ⟨by omega, ?_⟩
    have no : ∀ {k : Nat} {h : k < L.length}, ¬ JobAt S L k h → AV.b false = AV.b (decide (jobsLegal S L)) := by
      intro k h hn
      congr 1; symm; apply decide_eq_false
      exact fun hh => hn (JobAt.of hh k h)
    rw [show rep S.length [AV.i .i64 0] = encInt.row (nextL S Job.R (L.take 0)) from by rw [List.take_zero, nextL_nil]; exact encInt.rep 0 _]
    refine loop_count L.length (fun k => ⟨[(0, .sl 0 0 S.length c), (1, .sl 1 0 L.length c3), (5, .sl 2 0 S.length S.length), (6, .i .i64 k)], [.ro (encTask.row S), .ro (encJob.row L), .rw ty_int (encInt.row (nextL S Job.R (L.take k))) S.length]⟩)
      (fun k => ∀ m (h : m < L.length), m < k → JobAt S L m h) (fun m h h' => absurd h' (by omega)) (Wk.pick [0, 1, 2]) fun k hk hJ => ?_
    simp only [l0_spec_JobsLegal, go_sem, Int.reduceToNat, List.take_nil, Nat.zero_mul, Nat.reduceEqDiff, Nat.reduceAdd, Nat.reduceLT, Nat.reduceLeDiff, Nat.reduceMul, ↓reduceIte, reduceCtorEq]
    refine ⟨fun h => ?_, fun h => Fin.same ?_⟩
    · simp only [winJ h, encJ, lenJ, go_sem, Int.reduceToNat, List.take_nil, Nat.zero_mul, Nat.reduceEqDiff, Nat.reduceAdd, Nat.reduceLT, Nat.reduceLeDiff, Nat.reduceMul, ↓reduceIte, reduceCtorEq]
      refine ⟨by omega, by omega, by omega, spec_l1In_ _ _ _ ?_⟩
      simp only [winJ h, encJ, lenJ, not_true_eq_false, not_false_eq_true, decide_true, decide_false, Bool.not_true, Bool.not_false, false_implies, true_implies, and_true, true_and, Bool.false_eq_true, Bool.true_eq_false, implies_true, Bool.not_not, Classical.not_not, go_sem, Int.reduceToNat, List.take_nil, Nat.zero_mul, Nat.reduceEqDiff, Nat.reduceAdd, Nat.reduceLT, Nat.reduceLeDiff, Nat.reduceMul, ↓reduceIte, reduceCtorEq]
      refine ⟨fun h2 => spec_l1In_ _ _ _ ?_, fun h2 => Fin.same (no (k := k) (h := h) fun hh => h2 ⟨hh.row.1.1, by have := hh.row.1.2; omega⟩)⟩
      simp only [winJ h, encJ, lenJ, not_true_eq_false, not_false_eq_true, decide_true, decide_false, Bool.not_true, Bool.not_false, false_implies, true_implies, and_true, true_and, Bool.false_eq_true, Bool.true_eq_false, implies_true, Bool.not_not, Classical.not_not, go_sem, Int.reduceToNat, List.take_nil, Nat.zero_mul, Nat.reduceEqDiff, Nat.reduceAdd, Nat.reduceLT, Nat.reduceLeDiff, Nat.reduceMul, ↓reduceIte, reduceCtorEq]
      refine ⟨fun h3 => Fin.same (no (k := k) (h := h) fun hh => h3 hh.row.2.1), fun h3 => ?_⟩
      have t1 := gT_ok hS h2.1 (by omega)
      unfold Task.ok at t1
      have ht : L[k].T.toNat < S.length := by omega
      have htN : L[k].T.toNat < (nextL S Job.R (L.take k)).length := by rw [nextL_length]; exact ht
      have hN : (nextL S Job.R (L.take k))[L[k].T.toNat] = nextOf S Job.R (L.take k) L[k].T := by rw [nextL_get]; congr 1; omega
      have hlast : ∀ b, lastAt Job.R (L.take k) L[k].T = some b → 0 ≤ b ∧ b ≤ 119 := by
        intro b hb
        obtain ⟨j, hj, _, rfl⟩ := lastAt_mem _ _ _ _ hb
        obtain ⟨m, hm, rfl⟩ := List.mem_take_iff_getElem.1 hj
        exact (hJ m (by omega) (by omega)).row.2.1
      have hnx : 0 ≤ nextOf S Job.R (L.take k) L[k].T ∧ nextOf S Job.R (L.take k) L[k].T ≤ 300 := by
        unfold nextOf
        cases hb : lastAt Job.R (L.take k) L[k].T with
        | none => simp
        | some b => have := hlast b hb; simp only [perOf]; omega
      have hgap : gapAt Job.R (perOf S) L k h ↔ nextOf S Job.R (L.take k) L[k].T ≤ L[k].R := by
        unfold gapAt nextOf
        cases hb : lastAt Job.R (L.take k) L[k].T with
        | none => simp; omega
        | some b =>
          have := hlast b hb
          simp only [Option.some.injEq, forall_eq', perOf]
          omega
      have good : (0 < k → before (L[k - 1]'(by omega)) L[k]) → gapAt Job.R (perOf S) L k h → L[k].D = L[k].R + (gT S L[k].T).D → (1 ≤ L[k].E ∧ L[k].E ≤ costOf S L[k].T) → JobAt S L k h := fun hb hg hd he => ⟨⟨⟨h2.1, by omega⟩, h3, he, hb⟩, hd, hg⟩
      have step : JobAt S L k h → ∀ m (h : m < L.length), m < k + 1 → JobAt S L m h := by
        intro hg m hm hmk
        rcases Nat.lt_succ_iff_lt_or_eq.1 hmk with h' | rfl
        · exact hJ m hm h'
        · exact hg
      have hset : nextL S Job.R (L.take (k + 1)) = (nextL S Job.R (L.take k)).set L[k].T.toNat (L[k].R + (gT S L[k].T).P) := nextL_succ S Job.R h h2.1
      have e1 : ((k : Int) - 1).toNat = k - 1 := by omega
      rw [hset]
      simp only [winJ h, encJ, lenJ, ht, htN, hN, encT', not_true_eq_false, not_false_eq_true, decide_true, decide_false, Bool.not_true, Bool.not_false, false_implies, true_implies, and_true, true_and, Bool.false_eq_true, Bool.true_eq_false, implies_true, Bool.not_not, Classical.not_not, go_sem, Int.reduceToNat, List.take_nil, Nat.zero_mul, Nat.reduceEqDiff, Nat.reduceAdd, Nat.reduceLT, Nat.reduceLeDiff, Nat.reduceMul, ↓reduceIte, reduceCtorEq, lenT, rdT0, rdT1, rdT2, winT, takeT, appT, splT, splI, winI, lenI, rdI, takeI, appI, ← gT_eq ht]
      refine ⟨by omega, by omega, by omega, fun h6 => ⟨by omega, fun h7 => onCall.by (spec_l1In_ _ _ _ ⟨rfl, rfl⟩) ?_, fun h7 => Fin.same (no (k := k) (h := h) fun hh => h7 hh.d)⟩, fun h6 => Fin.same (no (k := k) (h := h) fun hh => ?_)⟩
      rotate_left
      · have := hgap.1 hh.gap; omega
      have hg := hgap.2 (by omega)
      simp only [winJ h, encJ, lenJ, ht, htN, hN, nextL_length, encT', not_true_eq_false, not_false_eq_true, decide_true, decide_false, Bool.not_true, Bool.not_false, false_implies, true_implies, and_true, true_and, Bool.false_eq_true, Bool.true_eq_false, implies_true, Bool.not_not, Classical.not_not, go_sem, Int.reduceToNat, List.take_nil, Nat.zero_mul, Nat.reduceEqDiff, Nat.reduceAdd, Nat.reduceLT, Nat.reduceLeDiff, Nat.reduceMul, ↓reduceIte, reduceCtorEq, lenT, rdT0, rdT1, rdT2, winT, takeT, appT, splT, splI, winI, lenI, rdI, takeI, appI, ← gT_eq ht]
      refine ⟨fun h8 => Fin.same (no (k := k) (h := h) fun hh => h8 hh.row.2.2.1), fun h8 => ⟨fun h9 => ?_, fun h9 => ?_⟩⟩
      · have hk1 : k - 1 < L.length := by omega
        simp only [e1, rdJ0 hk1, rdJ1 hk1, winJ h, encJ, lenJ, ht, htN, hN, nextL_length, encT', not_true_eq_false, not_false_eq_true, decide_true, decide_false, Bool.not_true, Bool.not_false, false_implies, true_implies, and_true, true_and, Bool.false_eq_true, Bool.true_eq_false, implies_true, Bool.not_not, Classical.not_not, go_sem, Int.reduceToNat, List.take_nil, Nat.zero_mul, Nat.reduceEqDiff, Nat.reduceAdd, Nat.reduceLT, Nat.reduceLeDiff, Nat.reduceMul, ↓reduceIte, reduceCtorEq, lenT, rdT0, rdT1, rdT2, winT, takeT, appT, splT, splI, winI, lenI, rdI, takeI, appI, ← gT_eq ht]
        refine ⟨by omega, by omega, by omega, fun h10 => ?_, fun h10 => Fin.same (no (k := k) (h := h) fun hh => ?_)⟩
        · refine ⟨by omega, by omega, by omega, fun h11 => ⟨by omega, by omega, by omega, fun h12 => Fin.same (no (k := k) (h := h) fun hh => ?_), fun h12 => ?_⟩, fun h11 => ?_⟩
          · have := hh.row.2.2.2 (by omega); unfold before at this; omega
          · repeat refine ⟨by omega, ?_⟩
            exact ⟨⟨h, step (good (fun _ => by unfold before; omega) hg h7 h8)⟩, Wk.pick [0, 1, 2]⟩
          · repeat refine ⟨by omega, ?_⟩
            exact ⟨⟨h, step (good (fun _ => by unfold before; omega) hg h7 h8)⟩, Wk.pick [0, 1, 2]⟩
        · have := hh.row.2.2.2 (by omega); unfold before at this; omega
      · repeat refine ⟨by omega, ?_⟩
        exact ⟨⟨h, step (good (fun h => absurd h (by omega)) hg h7 h8)⟩, Wk.pick [0, 1, 2]⟩
    · congr 1; symm; apply decide_eq_true
      exact jobsLegal_iff h1 (by omega) fun m hm => hJ m hm (by omega)
  · congr 1; symm; apply decide_eq_false
    exact fun hh => h1 hh.1
theorem spec_JobsLegal_ {S : List Task} {L : List Job} (hs : S.length ≤ 1048576) (hl : L.length ≤ 1048576) {v z : AV} {σ : List AB} (h : Rd encTask σ v S) (h3 : Rd encJob σ z L) {K : AV → List AB → Prop} (hk : K (.b (decide (jobsLegal S L))) σ) :
    CallWp Try.prog n_spec_JobsLegal [v, z] σ K :=
  call_rds _ (rds_cons h.r (rds1 h3.r)) (fun c => [.sl 0 0 S.length (c 0), .sl 1 0 L.length (c 1)]) (fun c => spec_JobsLegal0 S L hs hl (c 0) (c 1)) (fun ν c h => ⟨h.1, h.2.1, trivial⟩) (fun _ => rfl) rfl hk
end Go.Proofs.Ytmphblbpofnpaaa
