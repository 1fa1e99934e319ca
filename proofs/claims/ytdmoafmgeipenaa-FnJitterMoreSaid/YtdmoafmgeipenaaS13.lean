/- Contracts: runs by fixed priorities with jitter. -/
import Derived.Test.YtdmoafmgeipenaaS9
import Derived.Test.YtdmoafmgeipenaaE4
namespace Go.Proofs.Ytdmoafmgeipenaa
open Go.Abs Go.Ds
set_option linter.unusedSimpArgs false
set_option linter.unusedVariables false
set_option maxRecDepth 20000

/-- What RunJitter asks. -/
def jitRunOk (S : List Task) (J O : List Int) (L : List Job) : Prop := jitLegal S J L ∧ ordOk S O

theorem impl_RunJitter0 (S : List Task) (J O : List Int) (L : List Job) (hs : S.length ≤ 1048576) (hj : J.length ≤ 1048576) (ho : O.length ≤ 1048576) (hl : L.length ≤ 1048576) (c c1 c' c3 : Nat) : CallWp Try.prog n_impl_RunJitter [.sl 0 0 S.length c, .sl 1 0 J.length c1, .sl 2 0 O.length c', .sl 3 0 L.length c3] [.ro (encTask.row S), .ro (encInt.row J), .ro (encInt.row O), .ro (encJob.row L)]
    (fun x σ' => ∃ τ, σ' = [.ro (encTask.row S), .ro (encInt.row J), .ro (encInt.row O), .ro (encJob.row L)] ++ τ ∧ SchedP 4 (jitRunOk S J O L) (fixRun O L) (fixFin O L) L.length x τ) := by
  refine call_impl_RunJitter (by simp) ?_
  simp only [c_impl_RunJitter, go_sem, Int.reduceToNat, List.take_nil, Nat.zero_mul, Nat.reduceEqDiff, Nat.reduceAdd, Nat.reduceLT, Nat.reduceLeDiff, Nat.reduceMul, ↓reduceIte, reduceCtorEq]
  refine impl_JitterLegal_ (S := S) (J := J) (L := L) (by omega) (by omega) (by omega) (Rd.own rfl) (Rd.own rfl) (Rd.own rfl) ?_
  simp only [not_true_eq_false, not_false_eq_true, decide_true, decide_false, Bool.not_true, Bool.not_false, false_implies, true_implies, and_true, true_and, Bool.false_eq_true, Bool.true_eq_false, implies_true, Bool.not_not, Classical.not_not, go_sem, Int.reduceToNat, List.take_nil, Nat.zero_mul, Nat.reduceEqDiff, Nat.reduceAdd, Nat.reduceLT, Nat.reduceLeDiff, Nat.reduceMul, ↓reduceIte, reduceCtorEq]
  refine ⟨fun h2 => ?_, fun h2 => ?_⟩
  · refine impl_OrderValid_ (S := S) (O := O) (by omega) (by omega) (Rd.own rfl) (Rd.own rfl) ?_
    simp only [not_true_eq_false, not_false_eq_true, decide_true, decide_false, Bool.not_true, Bool.not_false, false_implies, true_implies, and_true, true_and, Bool.false_eq_true, Bool.true_eq_false, implies_true, Bool.not_not, Classical.not_not, go_sem, Int.reduceToNat, List.take_nil, Nat.zero_mul, Nat.reduceEqDiff, Nat.reduceAdd, Nat.reduceLT, Nat.reduceLeDiff, Nat.reduceMul, ↓reduceIte, reduceCtorEq]
    refine ⟨fun h1 => ?_, fun h1 => ?_⟩
    · exact Fin.pick [0, 1, 2, 3] (.agg [.sn, .sn]) _ ⟨[], rfl, .inl ⟨fun h => h1 h.2, rfl, rfl⟩⟩
    · have h60 := h2.2.1.1
      have h61 := h1.2.1
      have h62 := h1.1.1
      refine impl_fixed_ (O := O) (Rd.own rfl) ?_
      simp only [not_true_eq_false, not_false_eq_true, decide_true, decide_false, Bool.not_true, Bool.not_false, false_implies, true_implies, and_true, true_and, Bool.false_eq_true, Bool.true_eq_false, implies_true, Bool.not_not, Classical.not_not, go_sem, Int.reduceToNat, List.take_nil, Nat.zero_mul, Nat.reduceEqDiff, Nat.reduceAdd, Nat.reduceLT, Nat.reduceLeDiff, Nat.reduceMul, ↓reduceIte, reduceCtorEq]
      refine impl_simulate_ (L := L) (fixPick O L) rfl (by omega) (fun τ m done now hn hm K hk => impl_fixed_1_ (x := (5, 0)) (O := O) (Cap.app ⟨_, 2, c', rfl, by simp, rfl, rfl⟩ τ) (by omega) hm (by omega) hk) (fun now done => bestF_range _ _ _) fun c1 c2 => ?_
      simp only [go_sem, Int.reduceToNat, List.take_nil, Nat.zero_mul, Nat.reduceEqDiff, Nat.reduceAdd, Nat.reduceLT, Nat.reduceLeDiff, Nat.reduceMul, ↓reduceIte, reduceCtorEq]
      exact Fin.pick [0, 1, 2, 3, 6, 7] (.agg [.sl 4 0 120 c1, .sl 5 0 L.length c2]) _ ⟨_, rfl, .inr ⟨⟨h2, h1⟩, c1, c2, rfl, rfl⟩⟩
  · exact Fin.pick [0, 1, 2, 3] (.agg [.sn, .sn]) _ ⟨[], rfl, .inl ⟨fun h => h2 h.1, rfl, rfl⟩⟩

theorem impl_RunJitter_ {S : List Task} {J O : List Int} {L : List Job} (hs : S.length ≤ 1048576) (hj : J.length ≤ 1048576) (ho : O.length ≤ 1048576) (hl : L.length ≤ 1048576) {v z w u : AV} {σ : List AB} (h : Rd encTask σ v S) (h0 : Rd encInt σ z J) (h1 : Rd encInt σ w O) (h' : Rd encJob σ u L) {K : AV → List AB → Prop} (hn : ¬ jitRunOk S J O L → K (.agg [.sn, .sn]) σ)
    (hy : jitRunOk S J O L → ∀ c1 c2, K (.agg [.sl σ.length 0 120 c1, .sl (σ.length + 1) 0 L.length c2]) (σ ++ [.rw ty_int (encInt.row (fixRun O L)) c1, .rw ty_int (encInt.row (fixFin O L)) c2])) : CallWp Try.prog n_impl_RunJitter [v, z, w, u] σ K := by
  refine call_news _ (rds_cons h.r (rds_cons h0.r (rds_cons h1.r (rds1 h'.r)))) (fun c => [.sl 0 0 S.length (c 0), .sl 1 0 J.length (c 1), .sl 2 0 O.length (c 2), .sl 3 0 L.length (c 3)]) (SchedP 4 (jitRunOk S J O L) (fixRun O L) (fixFin O L) L.length) (fun c => impl_RunJitter0 S J O L hs hj ho hl (c 0) (c 1) (c 2) (c 3)) (fun _ _ h => h.fr) (fun ν c h => ⟨h.1, h.2.1, h.2.2.1, h.2.2.2.1, trivial⟩) (fun _ => rfl) ?_
  rintro x τ (⟨hno, rfl, rfl⟩ | ⟨hyes, c1, c2, rfl, rfl⟩)
  · rw [List.append_nil]; exact hn hno
  · exact hy hyes c1 c2

theorem spec_RunJitter0 (S : List Task) (J O : List Int) (L : List Job) (hs : S.length ≤ 1048576) (hj : J.length ≤ 1048576) (ho : O.length ≤ 1048576) (hl : L.length ≤ 1048576) (c c1 c' c3 : Nat) : CallWp Try.prog n_spec_RunJitter [.sl 0 0 S.length c, .sl 1 0 J.length c1, .sl 2 0 O.length c', .sl 3 0 L.length c3] [.ro (encTask.row S), .ro (encInt.row J), .ro (encInt.row O), .ro (encJob.row L)]
    (fun x σ' => ∃ τ, σ' = [.ro (encTask.row S), .ro (encInt.row J), .ro (encInt.row O), .ro (encJob.row L)] ++ τ ∧ SchedQ 4 (jitRunOk S J O L) (fixRun O L) (fixFin O L) x τ) := by
  refine call_spec_RunJitter (by simp) ?_
  simp only [c_spec_RunJitter, go_sem, Int.reduceToNat, List.take_nil, Nat.zero_mul, Nat.reduceEqDiff, Nat.reduceAdd, Nat.reduceLT, Nat.reduceLeDiff, Nat.reduceMul, ↓reduceIte, reduceCtorEq]
  refine spec_OrderValid_ (S := S) (O := O) (by omega) (by omega) (Rd.own rfl) (Rd.own rfl) ?_
  simp only [not_true_eq_false, not_false_eq_true, decide_true, decide_false, Bool.not_true, Bool.not_false, false_implies, true_implies, and_true, true_and, Bool.false_eq_true, Bool.true_eq_false, implies_true, Bool.not_not, Classical.not_not, go_sem, Int.reduceToNat, List.take_nil, Nat.zero_mul, Nat.reduceEqDiff, Nat.reduceAdd, Nat.reduceLT, Nat.reduceLeDiff, Nat.reduceMul, ↓reduceIte, reduceCtorEq]
  refine ⟨fun h1 => ?_, fun h1 => ?_⟩
  · refine spec_JitterLegal_ (S := S) (J := J) (L := L) (by omega) (by omega) (by omega) (Rd.own rfl) (Rd.own rfl) (Rd.own rfl) ?_
    simp only [not_true_eq_false, not_false_eq_true, decide_true, decide_false, Bool.not_true, Bool.not_false, false_implies, true_implies, and_true, true_and, Bool.false_eq_true, Bool.true_eq_false, implies_true, Bool.not_not, Classical.not_not, go_sem, Int.reduceToNat, List.take_nil, Nat.zero_mul, Nat.reduceEqDiff, Nat.reduceAdd, Nat.reduceLT, Nat.reduceLeDiff, Nat.reduceMul, ↓reduceIte, reduceCtorEq]
    refine ⟨fun h2 => ?_, fun h2 => ?_⟩
    · exact Fin.pick [0, 1, 2, 3] (.agg [.sn, .sn]) _ ⟨[], rfl, .inl ⟨fun h => h2 h.1, rfl, rfl⟩⟩
    · have h60 := h2.2.1.1
      have hE : ∀ j ∈ L, 0 ≤ j.E ∧ j.E ≤ 1000 := fun j hj => by
        have h3 := h2.2.1.mem hj
        have t1 := gT_ok h2.1.1 h3.1.1 h3.1.2
        unfold Task.ok at t1
        have h4 : costOf S j.T = (gT S j.T).C := rfl
        omega
      refine loop_intro (fun i : Nat × Nat => ⟨[(2, .sl 2 0 O.length c'), (3, .sl 3 0 L.length c3), (8, .p 4 0), (9, .sl 5 0 i.2 i.1), (10, .i .i64 i.2)], [.ro (encTask.row S), .ro (encInt.row J), .ro (encInt.row O), .ro (encJob.row L), .rw ty_impl_Schedule [.sn, .sn] 2, .rw ty_int (encInt.row ((L.take i.2).map fun j => rk O j.T)) i.1]⟩) (fun i => i.2 ≤ L.length) (fun i => L.length - i.2) (0, 0) (Nat.zero_le _) (Wk.pick [0, 1, 2, 3, 4, 5]) ?_
      rintro ⟨cap, k⟩ hkl
      simp only at hkl
      simp only [l0_spec_RunJitter, not_true_eq_false, not_false_eq_true, decide_true, decide_false, Bool.not_true, Bool.not_false, false_implies, true_implies, and_true, true_and, Bool.false_eq_true, Bool.true_eq_false, implies_true, Bool.not_not, Classical.not_not, go_sem, Int.reduceToNat, List.take_nil, Nat.zero_mul, Nat.reduceEqDiff, Nat.reduceAdd, Nat.reduceLT, Nat.reduceLeDiff, Nat.reduceMul, ↓reduceIte, reduceCtorEq]
      refine ⟨fun hlt => ?_, fun hlt => ?_⟩
      · simp only [rdJ0 hlt, lenJ, not_true_eq_false, not_false_eq_true, decide_true, decide_false, Bool.not_true, Bool.not_false, false_implies, true_implies, and_true, true_and, Bool.false_eq_true, Bool.true_eq_false, implies_true, Bool.not_not, Classical.not_not, go_sem, Int.reduceToNat, List.take_nil, Nat.zero_mul, Nat.reduceEqDiff, Nat.reduceAdd, Nat.reduceLT, Nat.reduceLeDiff, Nat.reduceMul, ↓reduceIte, reduceCtorEq]
        refine ⟨by omega, by omega, spec_l4Index_ (L := O) _ (by omega) (Rd.own rfl) ?_⟩
        simp only [lenI, List.length_map, List.length_take, Nat.min_eq_left hkl, not_true_eq_false, not_false_eq_true, decide_true, decide_false, Bool.not_true, Bool.not_false, false_implies, true_implies, and_true, true_and, Bool.false_eq_true, Bool.true_eq_false, implies_true, Bool.not_not, Classical.not_not, go_sem, Int.reduceToNat, List.take_nil, Nat.zero_mul, Nat.reduceEqDiff, Nat.reduceAdd, Nat.reduceLT, Nat.reduceLeDiff, Nat.reduceMul, ↓reduceIte, reduceCtorEq]
        refine ⟨by omega, fun cap' hcap' => ⟨by omega, (cap', k + 1), ⟨by simp only; omega, by simp only; omega⟩, ?_⟩⟩
        have e1 : List.take k (encInt.row (List.map (fun j => rk O j.T) (List.take k L))) ++ [AV.i IntKind.i64 (idxF (fun y => decide (y = L[k].T)) O)] = encInt.row (List.map (fun j => rk O j.T) (List.take (k + 1) L)) := by
          rw [List.take_of_length_le (by simp [lenI]; omega), List.take_succ_eq_append_getElem hlt, List.map_append, appI]; rfl
        rw [e1]
        exact Wk.pick [0, 1, 2, 3, 4, 7]
      · have e : k = L.length := by omega
        subst e
        rw [List.take_length]
        refine spec_l3Run_ (L := L) (ks := L.map fun j => rk O j.T) (by omega) (by simp) hE (Rd.own rfl) (Rd.len' rfl (by simp)) ?_
        rw [fix_key]
        rintro x τ (⟨hno, _⟩ | ⟨_, c1, c2, ⟨h, rfl, rfl⟩ | ⟨h, rfl, rfl⟩⟩)
        · exact absurd trivial hno
        · simp only [go_sem, Int.reduceToNat, List.take_nil, Nat.zero_mul, Nat.reduceEqDiff, Nat.reduceAdd, Nat.reduceLT, Nat.reduceLeDiff, Nat.reduceMul, ↓reduceIte, reduceCtorEq]
          exact Fin.pick [0, 1, 2, 3, 6, 7] (.agg [.sl 4 0 120 c1, .sl 5 0 (simU L (fixPick O L) 120).fin.length c2]) _ ⟨_, rfl, .inr ⟨⟨h2, h1⟩, c1, c2, .inl ⟨h, rfl, rfl⟩⟩⟩
        · simp only [go_sem, Int.reduceToNat, List.take_nil, Nat.zero_mul, Nat.reduceEqDiff, Nat.reduceAdd, Nat.reduceLT, Nat.reduceLeDiff, Nat.reduceMul, ↓reduceIte, reduceCtorEq]
          exact Fin.pick [0, 1, 2, 3, 6] (.agg [.sl 4 0 120 c1, .sn]) _ ⟨_, rfl, .inr ⟨⟨h2, h1⟩, c1, c2, .inr ⟨h, rfl, rfl⟩⟩⟩
  · exact Fin.pick [0, 1, 2, 3] (.agg [.sn, .sn]) _ ⟨[], rfl, .inl ⟨fun h => h1 h.2, rfl, rfl⟩⟩

theorem spec_RunJitter_ {S : List Task} {J O : List Int} {L : List Job} (hs : S.length ≤ 1048576) (hj : J.length ≤ 1048576) (ho : O.length ≤ 1048576) (hl : L.length ≤ 1048576) {v z w u : AV} {σ : List AB} (h : Rd encTask σ v S) (h0 : Rd encInt σ z J) (h1 : Rd encInt σ w O) (h' : Rd encJob σ u L) {K : AV → List AB → Prop} (hn : ¬ jitRunOk S J O L → K (.agg [.sn, .sn]) σ)
    (hy : jitRunOk S J O L → ∀ x τ, SchedQ σ.length True (fixRun O L) (fixFin O L) x τ → K x (σ ++ τ)) : CallWp Try.prog n_spec_RunJitter [v, z, w, u] σ K := by
  refine call_news _ (rds_cons h.r (rds_cons h0.r (rds_cons h1.r (rds1 h'.r)))) (fun c => [.sl 0 0 S.length (c 0), .sl 1 0 J.length (c 1), .sl 2 0 O.length (c 2), .sl 3 0 L.length (c 3)]) (SchedQ 4 (jitRunOk S J O L) (fixRun O L) (fixFin O L)) (fun c => spec_RunJitter0 S J O L hs hj ho hl (c 0) (c 1) (c 2) (c 3)) (fun _ _ h => h.fr) (fun ν c h => ⟨h.1, h.2.1, h.2.2.1, h.2.2.2.1, trivial⟩) (fun _ => rfl) ?_
  rintro x τ (⟨hno, rfl, rfl⟩ | ⟨hyes, c1, c2, ⟨h, rfl, rfl⟩ | ⟨h, rfl, rfl⟩⟩)
  · rw [List.append_nil]; exact hn hno
  · exact hy hyes _ _ (.inr ⟨trivial, c1, c2, .inl ⟨h, rfl, rfl⟩⟩)
  · exact hy hyes _ _ (.inr ⟨trivial, c1, c2, .inr ⟨h, rfl, rfl⟩⟩)
end Go.Proofs.Ytdmoafmgeipenaa
