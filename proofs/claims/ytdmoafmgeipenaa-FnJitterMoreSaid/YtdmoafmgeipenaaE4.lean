/- Contracts: legal release patterns with jitter, of the reference. -/
import Derived.Test.YtdmoafmgeipenaaE3
namespace Go.Proofs.Ytdmoafmgeipenaa
open Go.Abs Go.Ds
set_option linter.unusedSimpArgs false
set_option linter.unusedVariables false
set_option maxRecDepth 20000

/-- What the reference asks of job k. -/
structure JitAt (S : List Task) (J : List Int) (L : List Job) (k : Nat) (h : k < L.length) : Prop where
  row : jrowAt S.length (costOf S) L k h
  d : (gT S L[k].T).D ≤ L[k].D ∧ L[k].D ≤ 132
  r : 0 ≤ L[k].R - arrOf S L[k] ∧ L[k].R - arrOf S L[k] ≤ gI J L[k].T
  gap : gapAt (arrOf S) (perOf S) L k h

theorem JitAt.of {S : List Task} {J : List Int} {L : List Job} (hl : jitLegal S J L) (k : Nat) (h : k < L.length) : JitAt S J L k h :=
  ⟨hl.2.1.2 k h, (hl.2.2.1 _ (List.getElem_mem h)).1, (hl.2.2.1 _ (List.getElem_mem h)).2, hl.2.2.2 k h⟩

theorem jitLegal_iff {S : List Task} {J : List Int} {L : List Job} (h1 : jitOk S J) (h2 : L.length ≤ 60) : (∀ k (h : k < L.length), JitAt S J L k h) → jitLegal S J L := by
  refine fun hh => ⟨h1, ⟨h2, fun k h => (hh k h).row⟩, fun j hj => ?_, fun k h => (hh k h).gap⟩
  obtain ⟨k, hk, rfl⟩ := List.getElem_of_mem hj
  exact ⟨(hh k hk).d, (hh k hk).r⟩

theorem spec_JitterLegal0 (S : List Task) (J : List Int) (L : List Job) (hs : S.length ≤ 1048576) (hj : J.length ≤ 1048576) (hl : L.length ≤ 1048576) (c c' c3 : Nat) : CallWp Try.prog n_spec_JitterLegal [.sl 0 0 S.length c, .sl 1 0 J.length c', .sl 2 0 L.length c3] [.ro (encTask.row S), .ro (encInt.row J), .ro (encJob.row L)]
    (fun x σ => x = .b (decide (jitLegal S J L)) ∧ σ = [.ro (encTask.row S), .ro (encInt.row J), .ro (encJob.row L)]) := by
  refine call_spec_JitterLegal (by simp) ?_
  simp only [c_spec_JitterLegal, go_sem, Int.reduceToNat, List.take_nil, Nat.zero_mul, Nat.reduceEqDiff, Nat.reduceAdd, Nat.reduceLT, Nat.reduceLeDiff, Nat.reduceMul, ↓reduceIte, reduceCtorEq]
  refine spec_JitterValid_ (L := S) (J := J) (by omega) (by omega) (Rd.own rfl) (Rd.own rfl) ?_
  simp only [not_true_eq_false, not_false_eq_true, decide_true, decide_false, Bool.not_true, Bool.not_false, false_implies, true_implies, and_true, true_and, Bool.false_eq_true, Bool.true_eq_false, implies_true, Bool.not_not, Classical.not_not, go_sem, Int.reduceToNat, List.take_nil, Nat.zero_mul, Nat.reduceEqDiff, Nat.reduceAdd, Nat.reduceLT, Nat.reduceLeDiff, Nat.reduceMul, ↓reduceIte, reduceCtorEq]
  refine ⟨fun h1 => ⟨fun h2 => Fin.same ?_, fun h2 => ?_⟩, fun h1 => Fin.same ?_⟩
  · congr 1; symm; apply decide_eq_false
    intro hh; have := hh.2.1.1; omega
  · have hS := h1.1
    have h5 := hS.1
    refine ⟨by omega, ?_⟩
    have no : ∀ {k : Nat} {h : k < L.length}, ¬ JitAt S J L k h → AV.b false = AV.b (decide (jitLegal S J L)) := by
      intro k h hn
      congr 1; symm; apply decide_eq_false
      exact fun hh => hn (JitAt.of hh k h)
    rw [show rep S.length [AV.i .i64 0] = encInt.row (nextL S (arrOf S) (L.take 0)) from by rw [List.take_zero, nextL_nil]; exact encInt.rep 0 _]
    refine loop_count L.length (fun k => ⟨[(0, .sl 0 0 S.length c), (1, .sl 1 0 J.length c'), (2, .sl 2 0 L.length c3), (7, .sl 3 0 S.length S.length), (8, .i .i64 k)], [.ro (encTask.row S), .ro (encInt.row J), .ro (encJob.row L), .rw ty_int (encInt.row (nextL S (arrOf S) (L.take k))) S.length]⟩)
      (fun k => ∀ m (h : m < L.length), m < k → JitAt S J L m h) (fun m h h' => absurd h' (by omega)) (Wk.pick [0, 1, 2, 3]) fun k hk hJ => ?_
    simp only [l0_spec_JitterLegal, go_sem, Int.reduceToNat, List.take_nil, Nat.zero_mul, Nat.reduceEqDiff, Nat.reduceAdd, Nat.reduceLT, Nat.reduceLeDiff, Nat.reduceMul, ↓reduceIte, reduceCtorEq]
    refine ⟨fun h => ?_, fun h => Fin.same ?_⟩
    · simp only [winJ h, encJ, lenJ, go_sem, Int.reduceToNat, List.take_nil, Nat.zero_mul, Nat.reduceEqDiff, Nat.reduceAdd, Nat.reduceLT, Nat.reduceLeDiff, Nat.reduceMul, ↓reduceIte, reduceCtorEq]
      refine ⟨by omega, by omega, by omega, spec_l1In_ _ _ _ ?_⟩
      simp only [winJ h, encJ, lenJ, not_true_eq_false, not_false_eq_true, decide_true, decide_false, Bool.not_true, Bool.not_false, false_implies, true_implies, and_true, true_and, Bool.false_eq_true, Bool.true_eq_false, implies_true, Bool.not_not, Classical.not_not, go_sem, Int.reduceToNat, List.take_nil, Nat.zero_mul, Nat.reduceEqDiff, Nat.reduceAdd, Nat.reduceLT, Nat.reduceLeDiff, Nat.reduceMul, ↓reduceIte, reduceCtorEq]
      refine ⟨fun h2 => spec_l1In_ _ _ _ ?_, fun h2 => Fin.same (no (k := k) (h := h) fun hh => h2 ⟨hh.row.1.1, by have := hh.row.1.2; omega⟩)⟩
      simp only [winJ h, encJ, lenJ, not_true_eq_false, not_false_eq_true, decide_true, decide_false, Bool.not_true, Bool.not_false, false_implies, true_implies, and_true, true_and, Bool.false_eq_true, Bool.true_eq_false, implies_true, Bool.not_not, Classical.not_not, go_sem, Int.reduceToNat, List.take_nil, Nat.zero_mul, Nat.reduceEqDiff, Nat.reduceAdd, Nat.reduceLT, Nat.reduceLeDiff, Nat.reduceMul, ↓reduceIte, reduceCtorEq]
      refine ⟨fun h3 => spec_l1In_ _ _ _ ?_, fun h3 => Fin.same (no (k := k) (h := h) fun hh => h3 hh.row.2.1)⟩
      have t1 := gT_ok hS h2.1 (by omega)
      have j1 := gI_ok h1 h2.1 (by omega)
      unfold Task.ok at t1
      simp only [winJ h, encJ, lenJ, not_true_eq_false, not_false_eq_true, decide_true, decide_false, Bool.not_true, Bool.not_false, false_implies, true_implies, and_true, true_and, Bool.false_eq_true, Bool.true_eq_false, implies_true, Bool.not_not, Classical.not_not, go_sem, Int.reduceToNat, List.take_nil, Nat.zero_mul, Nat.reduceEqDiff, Nat.reduceAdd, Nat.reduceLT, Nat.reduceLeDiff, Nat.reduceMul, ↓reduceIte, reduceCtorEq]
      refine ⟨fun h4 => Fin.same (no (k := k) (h := h) fun hh => h4 (by have := hh.d; omega)), fun h4 => ?_⟩
      have hjl := h1.2.1
      have ht : L[k].T.toNat < S.length := by omega
      have htJ : L[k].T.toNat < J.length := by omega
      have htN : L[k].T.toNat < (nextL S (arrOf S) (L.take k)).length := by rw [nextL_length]; exact ht
      have ha : arrOf S L[k] = L[k].D - (gT S L[k].T).D := rfl
      have hN : (nextL S (arrOf S) (L.take k))[L[k].T.toNat] = nextOf S (arrOf S) (L.take k) L[k].T := by rw [nextL_get]; congr 1; omega
      have hlast : ∀ b, lastAt (arrOf S) (L.take k) L[k].T = some b → 0 ≤ b ∧ b ≤ 200 := by
        intro b hb
        obtain ⟨j, hj, _, rfl⟩ := lastAt_mem _ _ _ _ hb
        obtain ⟨m, hm, rfl⟩ := List.mem_take_iff_getElem.1 hj
        have := hJ m (by omega) (by omega)
        have := this.d
        have := this.1
        unfold arrOf
        have t2 := gT_ok hS (hJ m (by omega) (by omega)).row.1.1 (hJ m (by omega) (by omega)).row.1.2
        unfold Task.ok at t2
        omega
      have hnx : 0 ≤ nextOf S (arrOf S) (L.take k) L[k].T ∧ nextOf S (arrOf S) (L.take k) L[k].T ≤ 300 := by
        unfold nextOf
        cases hb : lastAt (arrOf S) (L.take k) L[k].T with
        | none => simp
        | some b => have := hlast b hb; simp only [perOf]; omega
      have hgap : gapAt (arrOf S) (perOf S) L k h ∧ 0 ≤ arrOf S L[k] ↔ nextOf S (arrOf S) (L.take k) L[k].T ≤ arrOf S L[k] := by
        unfold gapAt nextOf
        cases hb : lastAt (arrOf S) (L.take k) L[k].T with
        | none => simp
        | some b =>
          have := hlast b hb
          simp only [Option.some.injEq, forall_eq', perOf]
          omega
      simp only [winJ h, encJ, lenJ, ht, htJ, not_true_eq_false, not_false_eq_true, decide_true, decide_false, Bool.not_true, Bool.not_false, false_implies, true_implies, and_true, true_and, Bool.false_eq_true, Bool.true_eq_false, implies_true, Bool.not_not, Classical.not_not, go_sem, Int.reduceToNat, List.take_nil, Nat.zero_mul, Nat.reduceEqDiff, Nat.reduceAdd, Nat.reduceLT, Nat.reduceLeDiff, Nat.reduceMul, ↓reduceIte, reduceCtorEq, lenT, rdT0, rdT1, rdT2, winT, takeT, appT, splT, splI, winI, lenI, rdI, takeI, appI, ← gT_eq ht]
      refine ⟨by omega, by omega, by omega, ?_⟩
      simp only [winJ h, encJ, lenJ, ht, htJ, htN, hN, nextL_length, not_true_eq_false, not_false_eq_true, decide_true, decide_false, Bool.not_true, Bool.not_false, false_implies, true_implies, and_true, true_and, Bool.false_eq_true, Bool.true_eq_false, implies_true, Bool.not_not, Classical.not_not, go_sem, Int.reduceToNat, List.take_nil, Nat.zero_mul, Nat.reduceEqDiff, Nat.reduceAdd, Nat.reduceLT, Nat.reduceLeDiff, Nat.reduceMul, ↓reduceIte, reduceCtorEq, lenT, rdT0, rdT1, rdT2, winT, takeT, appT, splT, splI, winI, lenI, rdI, takeI, appI, ← gT_eq ht, ← gI_eq htJ]
      refine ⟨by omega, fun h6 => ?_, fun h6 => Fin.same (no (k := k) (h := h) fun hh => ?_)⟩
      rotate_left
      · have := hgap.1 ⟨hh.gap, by have := hh.d; omega⟩; omega
      have hg := hgap.2 (by omega)
      refine ⟨by omega, by omega, onCall.by (spec_l1In_ _ _ _ ⟨rfl, rfl⟩) ?_⟩
      simp only [winJ h, encJ, lenJ, ht, htJ, htN, hN, nextL_length, ← ha, not_true_eq_false, not_false_eq_true, decide_true, decide_false, Bool.not_true, Bool.not_false, false_implies, true_implies, and_true, true_and, Bool.false_eq_true, Bool.true_eq_false, implies_true, Bool.not_not, Classical.not_not, go_sem, Int.reduceToNat, List.take_nil, Nat.zero_mul, Nat.reduceEqDiff, Nat.reduceAdd, Nat.reduceLT, Nat.reduceLeDiff, Nat.reduceMul, ↓reduceIte, reduceCtorEq, lenT, rdT0, rdT1, rdT2, winT, takeT, appT, splT, splI, winI, lenI, rdI, takeI, appI, ← gT_eq ht, ← gI_eq htJ]
      refine ⟨fun h7 => ?_, fun h7 => Fin.same (no (k := k) (h := h) fun hh => h7 hh.r)⟩
      refine ⟨by omega, by omega, onCall.by (spec_l1In_ _ _ _ ⟨rfl, rfl⟩) ?_⟩
      simp only [winJ h, encJ, lenJ, ht, htJ, htN, hN, nextL_length, ← ha, not_true_eq_false, not_false_eq_true, decide_true, decide_false, Bool.not_true, Bool.not_false, false_implies, true_implies, and_true, true_and, Bool.false_eq_true, Bool.true_eq_false, implies_true, Bool.not_not, Classical.not_not, go_sem, Int.reduceToNat, List.take_nil, Nat.zero_mul, Nat.reduceEqDiff, Nat.reduceAdd, Nat.reduceLT, Nat.reduceLeDiff, Nat.reduceMul, ↓reduceIte, reduceCtorEq, lenT, rdT0, rdT1, rdT2, winT, takeT, appT, splT, splI, winI, lenI, rdI, takeI, appI, ← gT_eq ht, ← gI_eq htJ]
      refine ⟨fun h8 => Fin.same (no (k := k) (h := h) fun hh => h8 hh.row.2.2.1), fun h8 => ?_⟩
      have e1 : ((k : Int) - 1).toNat = k - 1 := by omega
      have good : (0 < k → before (L[k - 1]'(by omega)) L[k]) → JitAt S J L k h := fun hb => ⟨⟨⟨h2.1, by omega⟩, h3, h8, hb⟩, by omega, h7, hg.1⟩
      have step : JitAt S J L k h → ∀ m (h : m < L.length), m < k + 1 → JitAt S J L m h := by
        intro hg m hm hmk
        rcases Nat.lt_succ_iff_lt_or_eq.1 hmk with h' | rfl
        · exact hJ m hm h'
        · exact hg
      have hset : nextL S (arrOf S) (L.take (k + 1)) = (nextL S (arrOf S) (L.take k)).set L[k].T.toNat (arrOf S L[k] + (gT S L[k].T).P) := nextL_succ S (arrOf S) h h2.1
      rw [hset]
      refine ⟨fun h9 => ?_, fun h9 => ?_⟩
      · have hk1 : k - 1 < L.length := by omega
        simp only [e1, rdJ0 hk1, rdJ1 hk1, winJ h, encJ, lenJ, ht, htJ, htN, hN, nextL_length, ← ha, not_true_eq_false, not_false_eq_true, decide_true, decide_false, Bool.not_true, Bool.not_false, false_implies, true_implies, and_true, true_and, Bool.false_eq_true, Bool.true_eq_false, implies_true, Bool.not_not, Classical.not_not, go_sem, Int.reduceToNat, List.take_nil, Nat.zero_mul, Nat.reduceEqDiff, Nat.reduceAdd, Nat.reduceLT, Nat.reduceLeDiff, Nat.reduceMul, ↓reduceIte, reduceCtorEq, lenT, rdT0, rdT1, rdT2, winT, takeT, appT, splT, splI, winI, lenI, rdI, takeI, appI, ← gT_eq ht, ← gI_eq htJ]
        refine ⟨by omega, by omega, by omega, fun h10 => ?_, fun h10 => Fin.same (no (k := k) (h := h) fun hh => ?_)⟩
        · refine ⟨by omega, by omega, by omega, fun h11 => ⟨by omega, by omega, by omega, fun h12 => Fin.same (no (k := k) (h := h) fun hh => ?_), fun h12 => ?_⟩, fun h11 => ?_⟩
          · have := hh.row.2.2.2 (by omega); unfold before at this; omega
          · repeat refine ⟨by omega, ?_⟩
            exact ⟨⟨h, step (good fun _ => by unfold before; omega)⟩, Wk.pick [0, 1, 2, 3]⟩
          · repeat refine ⟨by omega, ?_⟩
            exact ⟨⟨h, step (good fun _ => by unfold before; omega)⟩, Wk.pick [0, 1, 2, 3]⟩
        · have := hh.row.2.2.2 (by omega); unfold before at this; omega
      · repeat refine ⟨by omega, ?_⟩
        exact ⟨⟨h, step (good fun h => absurd h (by omega))⟩, Wk.pick [0, 1, 2, 3]⟩
    · congr 1; symm; apply decide_eq_true
      exact jitLegal_iff h1 (by omega) fun m hm => hJ m hm (by omega)
  · congr 1; symm; apply decide_eq_false
    exact fun hh => h1 hh.1

theorem spec_JitterLegal_ {S : List Task} {J : List Int} {L : List Job} (hs : S.length ≤ 1048576) (hj : J.length ≤ 1048576) (hl : L.length ≤ 1048576) {v u z : AV} {σ : List AB} (h : Rd encTask σ v S) (h' : Rd encInt σ u J) (h3 : Rd encJob σ z L) {K : AV → List AB → Prop} (hk : K (.b (decide (jitLegal S J L))) σ) :
    CallWp Try.prog n_spec_JitterLegal [v, u, z] σ K :=
  call_rds _ (rds_cons h.r (rds_cons h'.r (rds1 h3.r))) (fun c => [.sl 0 0 S.length (c 0), .sl 1 0 J.length (c 1), .sl 2 0 L.length (c 2)]) (fun c => spec_JitterLegal0 S J L hs hj hl (c 0) (c 1) (c 2)) (fun ν c h => ⟨h.1, h.2.1, h.2.2.1, trivial⟩) (fun _ => rfl) rfl hk
end Go.Proofs.Ytdmoafmgeipenaa
