/- Contracts: legal release patterns with jitter, of the program. -/
import Derived.Test.YtdmoafmgeipenaaE2
import Derived.Test.YtdmoafmgeipenaaC2
namespace Go.Proofs.Ytdmoafmgeipenaa
open Go.Abs Go.Ds
set_option linter.unusedSimpArgs false
set_option linter.unusedVariables false
set_option maxRecDepth 20000

theorem impl_arrival0 (S : List Task) (hS : setOk S) (j : Job) (h0 : 0 ≤ j.T) (h1 : j.T < S.length) (hD : -1000000 ≤ j.D ∧ j.D ≤ 1000000) (c : Nat) : CallWp Try.prog n_impl_arrival [.sl 0 0 S.length c, .agg (encJob.f j)] [.ro (encTask.row S)] (fun x σ => x = .i .i64 (arrOf S j) ∧ σ = [.ro (encTask.row S)]) := by
  have ht : j.T.toNat < S.length := by omega
  have t1 := gT_ok hS h0 h1
  unfold Task.ok at t1
  refine call_impl_arrival (by simp) ?_
  simp only [c_impl_arrival, encJ, ht, go_sem, Int.reduceToNat, List.take_nil, Nat.zero_mul, Nat.reduceEqDiff, Nat.reduceAdd, Nat.reduceLT, Nat.reduceLeDiff, Nat.reduceMul, ↓reduceIte, reduceCtorEq, lenT, rdT0, rdT1, rdT2, winT, takeT, appT, splT, splI, winI, lenI, rdI, takeI, appI, ← gT_eq ht]
  exact ⟨by omega, by omega, by omega, Fin.same rfl⟩

theorem impl_arrival_ {S : List Task} (hS : setOk S) (j : Job) (h0 : 0 ≤ j.T) (h1 : j.T < S.length) (hD : -1000000 ≤ j.D ∧ j.D ≤ 1000000) {v : AV} {σ : List AB} (h : Rd encTask σ v S) {K : AV → List AB → Prop} (hk : K (.i .i64 (arrOf S j)) σ) : CallWp Try.prog n_impl_arrival [v, .agg (encJob.f j)] σ K :=
  call_rds _ (rds1 h.r) (fun c => [.sl 0 0 S.length (c 0), .agg (encJob.f j)]) (fun c => impl_arrival0 S hS j h0 h1 hD (c 0)) (fun ν c h => ⟨h.1, .inl rfl, trivial⟩) (fun _ => rfl) rfl hk

theorem impl_JitterLegal_1_ {σ : List AB} {x : Nat × Nat} {S : List Task} (h : Cap encTask σ x S) (t : Int) (h0 : 0 ≤ t) (h1 : t < S.length) {K : AV → List AB → Prop} (hk : K (.i .i64 (costOf S t)) σ) : CallWp Try.prog n_impl_JitterLegal_1 [.i .i64 t, .p x.1 x.2] σ K := by
  obtain ⟨cs, n, c, e1, e2, e3, e4⟩ := h
  have ht : t.toNat < S.length := by omega
  refine call_impl_JitterLegal_1 (by simp) ?_
  simp only [c_impl_JitterLegal_1, onC_of e1, onC_of e4, e3, ht, go_sem, Int.reduceToNat, List.take_nil, Nat.zero_mul, Nat.reduceEqDiff, Nat.reduceAdd, Nat.reduceLT, Nat.reduceLeDiff, Nat.reduceMul, ↓reduceIte, reduceCtorEq, lenT, rdT0, rdT1, rdT2, winT, takeT, appT, splT, splI, winI, lenI, rdI, takeI, appI, ← gT_eq ht]
  exact ⟨e2, ⟨h0, h1⟩, by omega, Fin.plain hk⟩

theorem impl_JitterLegal_3_ {σ : List AB} {x : Nat × Nat} {S : List Task} (h : Cap encTask σ x S) (t : Int) (h0 : 0 ≤ t) (h1 : t < S.length) {K : AV → List AB → Prop} (hk : K (.i .i64 (perOf S t)) σ) : CallWp Try.prog n_impl_JitterLegal_3 [.i .i64 t, .p x.1 x.2] σ K := by
  obtain ⟨cs, n, c, e1, e2, e3, e4⟩ := h
  have ht : t.toNat < S.length := by omega
  refine call_impl_JitterLegal_3 (by simp) ?_
  simp only [c_impl_JitterLegal_3, onC_of e1, onC_of e4, e3, ht, go_sem, Int.reduceToNat, List.take_nil, Nat.zero_mul, Nat.reduceEqDiff, Nat.reduceAdd, Nat.reduceLT, Nat.reduceLeDiff, Nat.reduceMul, ↓reduceIte, reduceCtorEq, lenT, rdT0, rdT1, rdT2, winT, takeT, appT, splT, splI, winI, lenI, rdI, takeI, appI, ← gT_eq ht]
  exact ⟨e2, ⟨h0, h1⟩, by omega, Fin.plain hk⟩

theorem impl_JitterLegal_2_ {σ : List AB} {x : Nat × Nat} {S : List Task} (h : Cap encTask σ x S) (hS : setOk S) (j : Job) (h0 : 0 ≤ j.T) (h1 : j.T < S.length) (hD : -1000000 ≤ j.D ∧ j.D ≤ 1000000) {K : AV → List AB → Prop} (hk : K (.i .i64 (arrOf S j)) σ) : CallWp Try.prog n_impl_JitterLegal_2 [.agg (encJob.f j), .p x.1 x.2] σ K := by
  obtain ⟨cs, n, c, e1, e2, e3, e4⟩ := h
  refine callC_impl_JitterLegal_2 (by simp) fun hC _ => ?_
  simp only [c_impl_JitterLegal_2, encJ, onC_of e1, onC_of e4, onC_old e1, onC_old e4, at_new, at_new0, e3, go_sem, Int.reduceToNat, List.take_nil, Nat.zero_mul, Nat.reduceEqDiff, Nat.reduceAdd, Nat.reduceLT, Nat.reduceLeDiff, Nat.reduceMul, ↓reduceIte, reduceCtorEq]
  refine ⟨e2, ?_⟩
  have hr : Rd encTask (σ ++ [.rw ty_impl_Job [.i .i64 j.T, .i .i64 j.R, .i .i64 j.D, .i .i64 j.E] 4]) (.sl n 0 S.length c) S := Rd.own (cells_old e4 _)
  refine impl_arrival_ hS j h0 h1 hD hr ?_
  simp only [go_sem, Int.reduceToNat, List.take_nil, Nat.zero_mul, Nat.reduceEqDiff, Nat.reduceAdd, Nat.reduceLT, Nat.reduceLeDiff, Nat.reduceMul, ↓reduceIte, reduceCtorEq]
  exact Fin.drop hC (Nat.le_refl _) rfl hk

theorem impl_JitterLegal0 (S : List Task) (J : List Int) (L : List Job) (hs : S.length ≤ 1048576) (hj : J.length ≤ 1048576) (hl : L.length ≤ 1048576) (c c' c3 : Nat) : CallWp Try.prog n_impl_JitterLegal [.sl 0 0 S.length c, .sl 1 0 J.length c', .sl 2 0 L.length c3] [.ro (encTask.row S), .ro (encInt.row J), .ro (encJob.row L)]
    (fun x σ => x = .b (decide (jitLegal S J L)) ∧ σ = [.ro (encTask.row S), .ro (encInt.row J), .ro (encJob.row L)]) := by
  refine call_impl_JitterLegal (by simp) ?_
  simp only [c_impl_JitterLegal, go_sem, Int.reduceToNat, List.take_nil, Nat.zero_mul, Nat.reduceEqDiff, Nat.reduceAdd, Nat.reduceLT, Nat.reduceLeDiff, Nat.reduceMul, ↓reduceIte, reduceCtorEq]
  have hcap : Cap encTask [.ro (encTask.row S), .ro (encInt.row J), .ro (encJob.row L), .rw ty_sl_impl_Task [.sl 0 0 S.length c] 1] (3, 0) S := ⟨_, 0, c, rfl, by simp, rfl, rfl⟩
  refine impl_JitterValid_ (L := S) (J := J) (by omega) (by omega) (Rd.own rfl) (Rd.own rfl) ?_
  simp only [not_true_eq_false, not_false_eq_true, decide_true, decide_false, Bool.not_true, Bool.not_false, false_implies, true_implies, and_true, true_and, Bool.false_eq_true, Bool.true_eq_false, implies_true, Bool.not_not, Classical.not_not, go_sem, Int.reduceToNat, List.take_nil, Nat.zero_mul, Nat.reduceEqDiff, Nat.reduceAdd, Nat.reduceLT, Nat.reduceLeDiff, Nat.reduceMul, ↓reduceIte, reduceCtorEq]
  refine ⟨fun h1 => ?_, fun h1 => Fin.same ?_⟩
  · have hS := h1.1
    have h5 := hS.1
    refine impl_ordered_ (σ := [.ro (encTask.row S), .ro (encInt.row J), .ro (encJob.row L), .rw ty_sl_impl_Task [.sl 0 0 S.length c] 1]) S.length (costOf S) rfl (by omega) (by omega) (fun t h0 h2 τ K hk => impl_JitterLegal_1_ (hcap.app τ) t h0 h2 hk) ?_
    simp only [h1, not_true_eq_false, not_false_eq_true, decide_true, decide_false, Bool.not_true, Bool.not_false, false_implies, true_implies, and_true, true_and, Bool.false_eq_true, Bool.true_eq_false, implies_true, Bool.not_not, Classical.not_not, go_sem, Int.reduceToNat, List.take_nil, Nat.zero_mul, Nat.reduceEqDiff, Nat.reduceAdd, Nat.reduceLT, Nat.reduceLeDiff, Nat.reduceMul, ↓reduceIte, reduceCtorEq]
    refine ⟨fun h2 => Fin.same ?_, fun h2 => ?_⟩
    · congr 1; symm; apply decide_eq_false
      exact fun hh => h2 hh.2.1
    · refine loop_count L.length (fun k => ⟨[(1, .sl 1 0 J.length c'), (2, .sl 2 0 L.length c3), (3, .p 3 0), (21, .sl 2 0 L.length c3), (22, .i .i64 L.length), (23, .i .i64 k)], [.ro (encTask.row S), .ro (encInt.row J), .ro (encJob.row L), .rw ty_sl_impl_Task [.sl 0 0 S.length c] 1]⟩)
        (fun k => ∀ j ∈ L.take k, ((gT S j.T).D ≤ j.D ∧ j.D ≤ 132) ∧ 0 ≤ j.R - arrOf S j ∧ j.R - arrOf S j ≤ gI J j.T) (by simp) (Wk.pick [0, 1, 2, 3]) fun k hk hJ => ?_
      simp only [l0_impl_JitterLegal, go_sem, Int.reduceToNat, List.take_nil, Nat.zero_mul, Nat.reduceEqDiff, Nat.reduceAdd, Nat.reduceLT, Nat.reduceLeDiff, Nat.reduceMul, ↓reduceIte, reduceCtorEq]
      refine ⟨fun h => ?_, fun h => ?_⟩
      · have hm := h2.mem (List.getElem_mem h)
        have ht : L[k].T.toNat < S.length := by omega
        have hjl := h1.2.1
        have htJ : L[k].T.toNat < J.length := by omega
        have t1 := gT_ok hS hm.1.1 hm.1.2
        have j1 := gI_ok h1 hm.1.1 hm.1.2
        unfold Task.ok at t1
        simp only [winJ h, encJ, lenJ, ht, go_sem, Int.reduceToNat, List.take_nil, Nat.zero_mul, Nat.reduceEqDiff, Nat.reduceAdd, Nat.reduceLT, Nat.reduceLeDiff, Nat.reduceMul, ↓reduceIte, reduceCtorEq, lenT, rdT0, rdT1, rdT2, winT, takeT, appT, splT, splI, winI, lenI, rdI, takeI, appI, ← gT_eq ht]
        refine ⟨by omega, by omega, by omega, by omega, onCall.by (impl_in_ _ _ _ ⟨rfl, rfl⟩) ?_⟩
        simp only [winJ h, encJ, lenJ, ht, not_true_eq_false, not_false_eq_true, decide_true, decide_false, Bool.not_true, Bool.not_false, false_implies, true_implies, and_true, true_and, Bool.false_eq_true, Bool.true_eq_false, implies_true, Bool.not_not, Classical.not_not, go_sem, Int.reduceToNat, List.take_nil, Nat.zero_mul, Nat.reduceEqDiff, Nat.reduceAdd, Nat.reduceLT, Nat.reduceLeDiff, Nat.reduceMul, ↓reduceIte, reduceCtorEq, lenT, rdT0, rdT1, rdT2, winT, takeT, appT, splT, splI, winI, lenI, rdI, takeI, appI, ← gT_eq ht]
        refine ⟨fun h3 => ?_, fun h3 => Fin.same ?_⟩
        · refine onCall.by (impl_arrival_ hS L[k] hm.1.1 hm.1.2 (by omega) (Rd.own rfl) ⟨rfl, rfl⟩) ?_
          simp only [winJ h, encJ, lenJ, ht, htJ, not_true_eq_false, not_false_eq_true, decide_true, decide_false, Bool.not_true, Bool.not_false, false_implies, true_implies, and_true, true_and, Bool.false_eq_true, Bool.true_eq_false, implies_true, Bool.not_not, Classical.not_not, go_sem, Int.reduceToNat, List.take_nil, Nat.zero_mul, Nat.reduceEqDiff, Nat.reduceAdd, Nat.reduceLT, Nat.reduceLeDiff, Nat.reduceMul, ↓reduceIte, reduceCtorEq, lenT, rdT0, rdT1, rdT2, winT, takeT, appT, splT, splI, winI, lenI, rdI, takeI, appI, ← gT_eq ht, ← gI_eq htJ]
          have ha : arrOf S L[k] = L[k].D - (gT S L[k].T).D := rfl
          refine ⟨by omega, by omega, onCall.by (impl_in_ _ _ _ ⟨rfl, rfl⟩) ?_⟩
          simp only [winJ h, encJ, lenJ, ht, htJ, not_true_eq_false, not_false_eq_true, decide_true, decide_false, Bool.not_true, Bool.not_false, false_implies, true_implies, and_true, true_and, Bool.false_eq_true, Bool.true_eq_false, implies_true, Bool.not_not, Classical.not_not, go_sem, Int.reduceToNat, List.take_nil, Nat.zero_mul, Nat.reduceEqDiff, Nat.reduceAdd, Nat.reduceLT, Nat.reduceLeDiff, Nat.reduceMul, ↓reduceIte, reduceCtorEq, lenT, rdT0, rdT1, rdT2, winT, takeT, appT, splT, splI, winI, lenI, rdI, takeI, appI, ← gT_eq ht, ← gI_eq htJ]
          refine ⟨fun h4 => Fin.same ?_, fun h4 => ⟨by omega, ⟨h, (all_take_succ h).2 ⟨hJ, h3, h4⟩⟩, Wk.pick [0, 1, 2, 3]⟩⟩
          congr 1; symm; apply decide_eq_false
          exact fun hh => h4 (hh.2.2.1 _ (List.getElem_mem h)).2
        · congr 1; symm; apply decide_eq_false
          exact fun hh => h3 (hh.2.2.1 _ (List.getElem_mem h)).1
      · have e : k = L.length := by omega
        subst e
        rw [List.take_length] at hJ
        have hD : ∀ j ∈ L, -1000000 ≤ j.D ∧ j.D ≤ 1000000 := fun j hj => by
          have t1 := gT_ok hS (h2.mem hj).1.1 (h2.mem hj).1.2
          unfold Task.ok at t1
          have := (hJ j hj).1
          omega
        refine impl_spaced_ (σ := [.ro (encTask.row S), .ro (encInt.row J), .ro (encJob.row L), .rw ty_sl_impl_Task [.sl 0 0 S.length c] 1]) (arrOf S) (perOf S) rfl (by omega) (fun j hj => ?_)
          (fun j hj τ K hk => impl_JitterLegal_2_ (hcap.app τ) hS j (h2.mem hj).1.1 (h2.mem hj).1.2 (hD j hj) hk) (fun j hj τ K hk => impl_JitterLegal_3_ (hcap.app τ) j.T (h2.mem hj).1.1 (h2.mem hj).1.2 hk) ?_
        · have t1 := gT_ok hS (h2.mem hj).1.1 (h2.mem hj).1.2
          unfold Task.ok at t1
          have := (hJ j hj).1
          have := h2.mem hj
          unfold arrOf
          omega
        simp only [not_true_eq_false, not_false_eq_true, decide_true, decide_false, Bool.not_true, Bool.not_false, false_implies, true_implies, and_true, true_and, Bool.false_eq_true, Bool.true_eq_false, implies_true, Bool.not_not, Classical.not_not, go_sem, Int.reduceToNat, List.take_nil, Nat.zero_mul, Nat.reduceEqDiff, Nat.reduceAdd, Nat.reduceLT, Nat.reduceLeDiff, Nat.reduceMul, ↓reduceIte, reduceCtorEq]
        refine Fin.same ?_
        congr 1; apply decide_eq_decide.2
        exact ⟨fun h => ⟨h1, h2, hJ, h⟩, fun h => h.2.2.2⟩
  · congr 1; symm; apply decide_eq_false
    exact fun hh => h1 hh.1

theorem impl_JitterLegal_ {S : List Task} {J : List Int} {L : List Job} (hs : S.length ≤ 1048576) (hj : J.length ≤ 1048576) (hl : L.length ≤ 1048576) {v u z : AV} {σ : List AB} (h : Rd encTask σ v S) (h' : Rd encInt σ u J) (h3 : Rd encJob σ z L) {K : AV → List AB → Prop} (hk : K (.b (decide (jitLegal S J L))) σ) :
    CallWp Try.prog n_impl_JitterLegal [v, u, z] σ K :=
  call_rds _ (rds_cons h.r (rds_cons h'.r (rds1 h3.r))) (fun c => [.sl 0 0 S.length (c 0), .sl 1 0 J.length (c 1), .sl 2 0 L.length (c 2)]) (fun c => impl_JitterLegal0 S J L hs hj hl (c 0) (c 1) (c 2)) (fun ν c h => ⟨h.1, h.2.1, h.2.2.1, trivial⟩) (fun _ => rfl) rfl hk
end Go.Proofs.Ytdmoafmgeipenaa
