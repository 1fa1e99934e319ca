import Derived.Test.YtmphblbpofnpaaaS4
import Derived.Test.YtmphblbpofnpaaaE7
namespace Go.Proofs.Ytmphblbpofnpaaa
open Go.Abs Go.Ds
set_option linter.unusedSimpArgs false
set_option linter.unusedVariables false
set_option maxRecDepth 20000
theorem laws_sameSchedule_ {σ : List AB} {x1 y1 x2 y2 : AV} {X1 Y1 X2 Y2 : List Int} (h1 : Rd encInt σ x1 X1) (h2 : Rd encInt σ y1 Y1) (h3 : Rd encInt σ x2 X2) (h4 : Rd encInt σ y2 Y2) (l1 : X1.length ≤ 1000000) (l2 : Y1.length ≤ 1000000)
    {K : AV → List AB → Prop} (hk : K (.b (decide (X1 = X2 ∧ Y1 = Y2))) σ) : CallWp Try.prog n_laws_sameSchedule [.agg [x1, y1], .agg [x2, y2]] σ K := by
  refine callC_laws_sameSchedule (by simp) fun hC hA => ?_
  have d1 := h1.data
  have d2 := h2.data
  have d3 := h3.data
  have d4 := h4.data
  simp only [c_laws_sameSchedule, List.append_assoc, at_new, at_new0, set_new, set_new0, d1, d2, d3, d4, not_true_eq_false, not_false_eq_true, decide_true, decide_false, Bool.not_true, Bool.not_false, false_implies, true_implies, and_true, true_and, Bool.false_eq_true, Bool.true_eq_false, implies_true, Bool.not_not, Classical.not_not, go_sem, Int.reduceToNat, List.take_nil, Nat.zero_mul, Nat.reduceEqDiff, Nat.reduceAdd, Nat.reduceLT, Nat.reduceLeDiff, Nat.reduceMul, ↓reduceIte, reduceCtorEq]
  have go : ∀ {τ : List AB} {v u : AV} {L M : List Int}, Rd encInt σ v L → Rd encInt σ u M → L.length ≤ 1000000 → ∀ {K : AV → List AB → Prop}, K (.b (decide (L = M))) (σ ++ τ) → CallWp Try.prog n_laws_sameInts [v, u] (σ ++ τ) K := fun a1 a2 a3 K hk => laws_sameInts_ (by omega) a1.app a2.app hk
  refine go h1 h3 l1 ?_
  simp only [List.append_assoc, at_new, at_new0, set_new, set_new0, d1, d2, d3, d4, not_true_eq_false, not_false_eq_true, decide_true, decide_false, Bool.not_true, Bool.not_false, false_implies, true_implies, and_true, true_and, Bool.false_eq_true, Bool.true_eq_false, implies_true, Bool.not_not, Classical.not_not, go_sem, Int.reduceToNat, List.take_nil, Nat.zero_mul, Nat.reduceEqDiff, Nat.reduceAdd, Nat.reduceLT, Nat.reduceLeDiff, Nat.reduceMul, ↓reduceIte, reduceCtorEq]
  by_cases e : X1 = X2
  · simp only [e, decide_true, true_and, d1, d2, d3, d4, at_new, at_new0, List.append_assoc, not_true_eq_false, not_false_eq_true, decide_true, decide_false, Bool.not_true, Bool.not_false, false_implies, true_implies, and_true, true_and, Bool.false_eq_true, Bool.true_eq_false, implies_true, Bool.not_not, Classical.not_not, go_sem, Int.reduceToNat, List.take_nil, Nat.zero_mul, Nat.reduceEqDiff, Nat.reduceAdd, Nat.reduceLT, Nat.reduceLeDiff, Nat.reduceMul, ↓reduceIte, reduceCtorEq] at hk ⊢
    refine go h2 h4 l2 ?_
    simp only [not_true_eq_false, not_false_eq_true, decide_true, decide_false, Bool.not_true, Bool.not_false, false_implies, true_implies, and_true, true_and, Bool.false_eq_true, Bool.true_eq_false, implies_true, Bool.not_not, Classical.not_not, go_sem, Int.reduceToNat, List.take_nil, Nat.zero_mul, Nat.reduceEqDiff, Nat.reduceAdd, Nat.reduceLT, Nat.reduceLeDiff, Nat.reduceMul, ↓reduceIte, reduceCtorEq]
    exact Fin.drop hC (Nat.le_refl _) rfl hk
  · simp only [e, decide_false, false_and, d1, d2, d3, d4, not_true_eq_false, not_false_eq_true, decide_true, decide_false, Bool.not_true, Bool.not_false, false_implies, true_implies, and_true, true_and, Bool.false_eq_true, Bool.true_eq_false, implies_true, Bool.not_not, Classical.not_not, go_sem, Int.reduceToNat, List.take_nil, Nat.zero_mul, Nat.reduceEqDiff, Nat.reduceAdd, Nat.reduceLT, Nat.reduceLeDiff, Nat.reduceMul, ↓reduceIte, reduceCtorEq] at hk ⊢
    exact Fin.drop hC (Nat.le_refl _) rfl hk
theorem spec_l3Best0 (L : List Job) (lf ks : List Int) (now : Nat) (hn : now ≤ 1000) (hl : L.length ≤ 1000) (h1 : lf.length = L.length) (h2 : ks.length = L.length) (c c' c3 : Nat) :
    CallWp Try.prog n_spec_l3Best [.sl 0 0 L.length c, .sl 1 0 lf.length c', .sl 2 0 ks.length c3, .i .i64 now] [.ro (encJob.row L), .ro (encInt.row lf), .ro (encInt.row ks)]
      (fun x σ => x = .i .i64 (bestF L.length (fun i => decide ((L.getD i default).R ≤ now ∧ 0 < gI lf i)) (fun i => gI ks i)) ∧ σ = [.ro (encJob.row L), .ro (encInt.row lf), .ro (encInt.row ks)]) := by
  refine call_spec_l3Best (by simp) ?_
  simp only [c_spec_l3Best, not_true_eq_false, not_false_eq_true, decide_true, decide_false, Bool.not_true, Bool.not_false, false_implies, true_implies, and_true, true_and, Bool.false_eq_true, Bool.true_eq_false, implies_true, Bool.not_not, Classical.not_not, go_sem, Int.reduceToNat, List.take_nil, Nat.zero_mul, Nat.reduceEqDiff, Nat.reduceAdd, Nat.reduceLT, Nat.reduceLeDiff, Nat.reduceMul, ↓reduceIte, reduceCtorEq]
  generalize hok : (fun i : Nat => decide ((L.getD i default).R ≤ (now : Int) ∧ 0 < gI lf i)) = ok
  refine loop_count L.length (fun k => ⟨[(0, .sl 0 0 L.length c), (1, .sl 1 0 lf.length c'), (2, .sl 2 0 ks.length c3), (3, .i .i64 now), (9, .i .i64 (bestF k ok fun i => gI ks i)), (10, .i .i64 k)], [.ro (encJob.row L), .ro (encInt.row lf), .ro (encInt.row ks)]⟩) (fun _ => True) trivial (Wk.keep (by simp [look_cons, bestF])) fun k hkl _ => ?_
  simp only [l0_spec_l3Best, not_true_eq_false, not_false_eq_true, decide_true, decide_false, Bool.not_true, Bool.not_false, false_implies, true_implies, and_true, true_and, Bool.false_eq_true, Bool.true_eq_false, implies_true, Bool.not_not, Classical.not_not, go_sem, Int.reduceToNat, List.take_nil, Nat.zero_mul, Nat.reduceEqDiff, Nat.reduceAdd, Nat.reduceLT, Nat.reduceLeDiff, Nat.reduceMul, ↓reduceIte, reduceCtorEq]
  refine ⟨fun hl => ?_, fun hl => ?_⟩
  · have hk1 : k < lf.length := by omega
    have hk2 : k < ks.length := by omega
    have hb := bestF_range ok (fun i => gI ks i) k
    have hsucc := bestF_succ k ok (fun i => gI ks i)
    have eok : ok k = decide (L[k].R ≤ (now : Int) ∧ 0 < lf[k]) := by
      rw [← hok]; simp only [List.getD_eq_getElem?_getD, List.getElem?_eq_getElem hl, Option.getD_some]
      rw [show gI lf k = lf[k] from by simp [gI, List.getD_eq_getElem?_getD, hk1]]
    have ek : gI ks k = ks[k] := by simp [gI, List.getD_eq_getElem?_getD, hk2]
    generalize bestF k ok (fun i => gI ks i) = b at hb hsucc ⊢
    rw [hsucc, eok, ek]
    simp only [rdJ1 hl, rdI hk1, rdI hk2, lenJ, lenI, not_true_eq_false, not_false_eq_true, decide_true, decide_false, Bool.not_true, Bool.not_false, false_implies, true_implies, and_true, true_and, Bool.false_eq_true, Bool.true_eq_false, implies_true, Bool.not_not, Classical.not_not, go_sem, Int.reduceToNat, List.take_nil, Nat.zero_mul, Nat.reduceEqDiff, Nat.reduceAdd, Nat.reduceLT, Nat.reduceLeDiff, Nat.reduceMul, ↓reduceIte, reduceCtorEq]
    simp only [decide_eq_true_eq]
    refine ⟨hl, by omega, fun g1 => ⟨hk1, hk1, fun g2 => ⟨fun g3 => ?_, fun g3 => ?_⟩, fun g2 => ?_⟩, fun g1 => ?_⟩
    · obtain ⟨nb, rfl⟩ := Int.eq_ofNat_of_zero_le (show 0 ≤ b by omega)
      have hnb : nb < ks.length := by omega
      have eb : gI ks nb = ks[nb] := by simp [gI, List.getD_eq_getElem?_getD, hnb]
      simp only [Int.toNat_natCast, rdI hnb, eb, not_true_eq_false, not_false_eq_true, decide_true, decide_false, Bool.not_true, Bool.not_false, false_implies, true_implies, and_true, true_and, Bool.false_eq_true, Bool.true_eq_false, implies_true, Bool.not_not, Classical.not_not, go_sem, Int.reduceToNat, List.take_nil, Nat.zero_mul, Nat.reduceEqDiff, Nat.reduceAdd, Nat.reduceLT, Nat.reduceLeDiff, Nat.reduceMul, ↓reduceIte, reduceCtorEq]
      refine ⟨hk2, hk2, by omega, hnb, fun g4 => ⟨by omega, hl, ?_⟩, fun g4 => ⟨by omega, hl, ?_⟩⟩
      · rw [if_pos ⟨⟨g1, g2⟩, .inr g4⟩]; exact Wk.keep (by simp [look_cons])
      · rw [if_neg fun hh => hh.2.elim g3 g4]; exact Wk.keep (by simp [look_cons])
    · refine ⟨by omega, hl, ?_⟩
      rw [if_pos ⟨⟨g1, g2⟩, .inl g3⟩]; exact Wk.keep (by simp [look_cons])
    · refine ⟨by omega, hl, ?_⟩
      rw [if_neg fun hh => g2 hh.1.2]; exact Wk.keep (by simp [look_cons])
    · refine ⟨by omega, hl, ?_⟩
      rw [if_neg fun hh => g1 hh.1.1]; exact Wk.keep (by simp [look_cons])
  · have e : k = L.length := by omega
    subst e
    exact Fin.plain ⟨rfl, rfl⟩
theorem spec_l3Best_ {L : List Job} {lf ks : List Int} {now : Nat} (hn : now ≤ 1000) (hl : L.length ≤ 1000) (h1 : lf.length = L.length) (h2 : ks.length = L.length) {u v w : AV} {σ : List AB} (a1 : Rd encJob σ u L) (a2 : Rd encInt σ v lf) (a3 : Rd encInt σ w ks)
    {K : AV → List AB → Prop} (hk : K (.i .i64 (bestF L.length (fun i => decide ((L.getD i default).R ≤ now ∧ 0 < gI lf i)) (fun i => gI ks i))) σ) : CallWp Try.prog n_spec_l3Best [u, v, w, .i .i64 now] σ K :=
  call_rds _ (rds_cons a1.r (rds_cons a2.r (rds1 a3.r))) (fun c => [.sl 0 0 L.length (c 0), .sl 1 0 lf.length (c 1), .sl 2 0 ks.length (c 2), .i .i64 now]) (fun c => spec_l3Best0 L lf ks now hn hl h1 h2 (c 0) (c 1) (c 2)) (fun ν c h => ⟨h.1, h.2.1, h.2.2.1, .inl rfl, trivial⟩) (fun _ => rfl) rfl hk
theorem spec_l3Deadlines0 (L : List Job) (hl : L.length ≤ 1000) (c : Nat) : CallWp Try.prog n_spec_l3Deadlines [.sl 0 0 L.length c] [.ro (encJob.row L)]
    (fun x σ => ∃ cap, x = .sl 1 0 L.length cap ∧ σ = [.ro (encJob.row L)] ++ [.rw ty_int (encInt.row (L.map Job.D)) (cap * 1)]) := by
  refine call_spec_l3Deadlines (by simp) ?_
  simp only [c_spec_l3Deadlines, not_true_eq_false, not_false_eq_true, decide_true, decide_false, Bool.not_true, Bool.not_false, false_implies, true_implies, and_true, true_and, Bool.false_eq_true, Bool.true_eq_false, implies_true, Bool.not_not, Classical.not_not, go_sem, Int.reduceToNat, List.take_nil, Nat.zero_mul, Nat.reduceEqDiff, Nat.reduceAdd, Nat.reduceLT, Nat.reduceLeDiff, Nat.reduceMul, ↓reduceIte, reduceCtorEq]
  refine loop_intro (fun i : Nat × Nat => ⟨[(0, .sl 0 0 L.length c), (3, .sl 1 0 i.2 i.1), (4, .i .i64 i.2)], [.ro (encJob.row L), .rw ty_int (encInt.row ((L.take i.2).map Job.D)) i.1]⟩) (fun i => i.2 ≤ L.length) (fun i => L.length - i.2) (0, 0) (Nat.zero_le _) (Wk.pick [0, 1]) ?_
  rintro ⟨cap, k⟩ hkl
  simp only at hkl
  simp only [l0_spec_l3Deadlines, not_true_eq_false, not_false_eq_true, decide_true, decide_false, Bool.not_true, Bool.not_false, false_implies, true_implies, and_true, true_and, Bool.false_eq_true, Bool.true_eq_false, implies_true, Bool.not_not, Classical.not_not, go_sem, Int.reduceToNat, List.take_nil, Nat.zero_mul, Nat.reduceEqDiff, Nat.reduceAdd, Nat.reduceLT, Nat.reduceLeDiff, Nat.reduceMul, ↓reduceIte, reduceCtorEq]
  refine ⟨fun hl => ?_, fun hl => ?_⟩
  · simp only [rdJ2 hl, lenJ, lenI, List.length_map, List.length_take, Nat.min_eq_left hkl, not_true_eq_false, not_false_eq_true, decide_true, decide_false, Bool.not_true, Bool.not_false, false_implies, true_implies, and_true, true_and, Bool.false_eq_true, Bool.true_eq_false, implies_true, Bool.not_not, Classical.not_not, go_sem, Int.reduceToNat, List.take_nil, Nat.zero_mul, Nat.reduceEqDiff, Nat.reduceAdd, Nat.reduceLT, Nat.reduceLeDiff, Nat.reduceMul, ↓reduceIte, reduceCtorEq]
    refine ⟨hl, by omega, by omega, fun cap' hcap' => ⟨by omega, (cap', k + 1), ⟨by simp only; omega, by simp only; omega⟩, ?_⟩⟩
    have e1 : List.take k (encInt.row (List.map Job.D (List.take k L))) ++ [AV.i IntKind.i64 L[k].D] = encInt.row (List.map Job.D (List.take (k + 1) L)) := by
      rw [List.take_of_length_le (by simp [lenI]; omega), List.take_succ_eq_append_getElem hl, List.map_append, appI]; rfl
    rw [e1]
    exact Wk.pick [0, 3]
  · have e : k = L.length := by omega
    subst e
    rw [List.take_length]
    exact Fin.plain ⟨cap, rfl, by simp⟩
theorem spec_l3Deadlines_ {L : List Job} (hl : L.length ≤ 1000) {u : AV} {σ : List AB} (a1 : Rd encJob σ u L) {K : AV → List AB → Prop} (hk : ∀ cap, K (.sl σ.length 0 L.length cap) (σ ++ [.rw ty_int (encInt.row (L.map Job.D)) (cap * 1)])) : CallWp Try.prog n_spec_l3Deadlines [u] σ K :=
  call_new _ (rds1 a1.r) (fun c => [.sl 0 0 L.length (c 0)]) (fun c => spec_l3Deadlines0 L hl (c 0)) (fun ν c h => ⟨h.1, trivial⟩) (fun _ => rfl) (encInt.row_flat _) hk
end Go.Proofs.Ytmphblbpofnpaaa
