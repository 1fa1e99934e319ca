import Derived.Test.YtmphblbpofnpaaaS46
namespace Go.Proofs.Ytmphblbpofnpaaa
open Go.Abs Go.Ds
set_option linter.unusedSimpArgs false
set_option linter.unusedVariables false
set_option maxRecDepth 20000
set_option maxHeartbeats 4000000
theorem mix_nil (S : List MTask) (nu de : Int) : ∀ k : Nat, (mixS S nu de [] k).st = mix0 ∧ (mixS S nu de [] k).run = List.replicate k (-1) ∧ (mixS S nu de [] k).fin = []
  | 0 => ⟨rfl, rfl, rfl⟩
  | k + 1 => by
    obtain ⟨h1, h2, h3⟩ := mix_nil S nu de k
    have e : mixPick S nu de [] (mixS S nu de [] k).st k (mixS S nu de [] k).done = (-1, mix0) := by
      rw [h1]
      unfold mixPick
      rw [if_neg (fun h => by simp [mix0] at h), if_neg (fun h => by have := h.1; simp [lowBest, bestF] at this)]
      simp [lowBest, bestF, mix0, frmOf]
    obtain ⟨g1, g2, g3, _⟩ := mix_step k e
    exact ⟨g1, by rw [g2, h2, ← List.replicate_succ'], by rw [(g3 (by omega)).2, h3]⟩
def mxN (S : List MTask) (nu de : Int) (c c' : Nat) : Option (Nat × Nat) → St
  | none => ⟨[(0, .sl 0 0 S.length c), (1, .sl 1 0 0 c'), (4, .p 2 0), (5, .p 3 0), (7, .p 4 0), (8, .sl 5 0 0 0), (10, .b false), (11, .i .i64 0)], [.ro (encMT.row S), .ro (encJob.row []), .rw ty_impl_MixedRun [.sn, .sn, .i .i64 0] 3, .rw ty_impl_Fraction [.i .i64 nu, .i .i64 de] 2, .rw ty_impl_MixedRun [.sn, .sn, .i .i64 (-1)] 3, .rw ty_int [] 0]⟩
  | some (c3, k) => ⟨[(0, .sl 0 0 S.length c), (1, .sl 1 0 0 c'), (4, .p 2 0), (5, .p 3 0), (7, .p 4 0), (8, .sl 5 0 0 0), (10, .b false), (11, .i .i64 k)], [.ro (encMT.row S), .ro (encJob.row []), .rw ty_impl_MixedRun [.sn, .sn, .i .i64 0] 3, .rw ty_impl_Fraction [.i .i64 nu, .i .i64 de] 2, .rw ty_impl_MixedRun [.sl 6 0 k c3, .sn, .i .i64 (-1)] 3, .rw ty_int [] 0, .rw ty_int (encInt.row (List.replicate k (-1))) c3]⟩
theorem spec_RunMixed_nil (S : List MTask) (nu de : Int) (hsc : scaleR S = some (nu, de)) (hL : mixLegal S []) (c c' : Nat) : CallWp Try.prog n_spec_RunMixed [.sl 0 0 S.length c, .sl 1 0 ([] : List Job).length c'] [.ro (encMT.row S), .ro (encJob.row [])]
    (fun x σ' => ∃ τ, σ' = [.ro (encMT.row S), .ro (encJob.row [])] ++ τ ∧ MixQ 2 (mixRunOk S [] nu de) (mixRun S nu de []) (mixFin S nu de []) (mixSw S nu de []) x τ) := by
  have h5 := hL.1.1
  have hb := scaleR_bound hsc
  have hf : (0 ≤ nu ∧ nu ≤ 27720) ∧ 0 ≤ de ∧ de ≤ 27720 := ⟨hb.2.1, by omega⟩
  refine call_spec_RunMixed (by simp) ?_
  simp only [c_spec_RunMixed, go_sem, Int.reduceToNat, List.take_nil, Nat.zero_mul, Nat.reduceEqDiff, Nat.reduceAdd, Nat.reduceLT, Nat.reduceLeDiff, Nat.reduceMul, ↓reduceIte, reduceCtorEq]
  refine spec_DeadlineScale_ (S := S) (by omega) (Rd.own rfl) ?_
  rw [hsc]
  simp only [scaleAV, not_true_eq_false, not_false_eq_true, decide_true, decide_false, Bool.not_true, Bool.not_false, false_implies, true_implies, and_true, true_and, Bool.false_eq_true, Bool.true_eq_false, implies_true, Bool.not_not, Classical.not_not, go_sem, Int.reduceToNat, List.take_nil, Nat.zero_mul, Nat.reduceEqDiff, Nat.reduceAdd, Nat.reduceLT, Nat.reduceLeDiff, Nat.reduceMul, ↓reduceIte, reduceCtorEq]
  refine spec_MixedLegal_ (S := S) (L := []) (by omega) (by simp) (Rd.own rfl) (Rd.own rfl) ?_
  simp only [hL, not_true_eq_false, not_false_eq_true, decide_true, decide_false, Bool.not_true, Bool.not_false, false_implies, true_implies, and_true, true_and, Bool.false_eq_true, Bool.true_eq_false, implies_true, Bool.not_not, Classical.not_not, go_sem, Int.reduceToNat, List.take_nil, Nat.zero_mul, Nat.reduceEqDiff, Nat.reduceAdd, Nat.reduceLT, Nat.reduceLeDiff, Nat.reduceMul, ↓reduceIte, reduceCtorEq]
  refine loop_intro (fun _ : Unit => ⟨[(0, .sl 0 0 S.length c), (1, .sl 1 0 0 c'), (4, .p 2 0), (5, .p 3 0), (7, .p 4 0), (8, .sl 5 0 0 0), (9, .i .i64 0)], [.ro (encMT.row S), .ro (encJob.row []), .rw ty_impl_MixedRun [.sn, .sn, .i .i64 0] 3, .rw ty_impl_Fraction [.i .i64 nu, .i .i64 de] 2, .rw ty_impl_MixedRun [.sn, .sn, .i .i64 (-1)] 3, .rw ty_int [] 0]⟩) (fun _ => True) (fun _ => 0) () trivial (Wk.pickR [0, 1, 2, 3, 4, 5]) fun _ _ => ?_
  simp only [l2_spec_RunMixed, not_true_eq_false, not_false_eq_true, decide_true, decide_false, Bool.not_true, Bool.not_false, false_implies, true_implies, and_true, true_and, Bool.false_eq_true, Bool.true_eq_false, implies_true, Bool.not_not, Classical.not_not, go_sem, Int.reduceToNat, List.take_nil, Nat.zero_mul, Nat.reduceEqDiff, Nat.reduceAdd, Nat.reduceLT, Nat.reduceLeDiff, Nat.reduceMul, ↓reduceIte, reduceCtorEq]
  refine ⟨fun h => absurd h (by omega), fun _ => ?_⟩
  refine loop_intro (mxN S nu de c c') (fun i => match i with | none => True | some (_, k) => 1 ≤ k ∧ k ≤ 120) (fun i => match i with | none => 120 | some (_, k) => 120 - k) none trivial (Wk.pickR [0, 1, 2, 3, 4, 5]) ?_
  rintro (_ | ⟨c3, k⟩) hk
  · simp only [l1_spec_RunMixed, mxN, not_true_eq_false, not_false_eq_true, decide_true, decide_false, Bool.not_true, Bool.not_false, false_implies, true_implies, and_true, true_and, Bool.false_eq_true, Bool.true_eq_false, implies_true, Bool.not_not, Classical.not_not, go_sem, Int.reduceToNat, List.take_nil, Nat.zero_mul, Nat.reduceEqDiff, Nat.reduceAdd, Nat.reduceLT, Nat.reduceLeDiff, Nat.reduceMul, ↓reduceIte, reduceCtorEq]
    refine ⟨fun _ => ?_, fun h => absurd (by decide) h⟩
    refine spec_l15Best_ (S := S) (L := []) (Lf := []) (now := 0) hL hf rfl (by omega) (Rd.own rfl) (Rd.own rfl) (Rd.own rfl) ?_
    rw [show sBest S nu de [] [] false 0 = -1 from rfl]
    simp only [not_true_eq_false, not_false_eq_true, decide_true, decide_false, Bool.not_true, Bool.not_false, false_implies, true_implies, and_true, true_and, Bool.false_eq_true, Bool.true_eq_false, implies_true, Bool.not_not, Classical.not_not, go_sem, Int.reduceToNat, List.take_nil, Nat.zero_mul, Nat.reduceEqDiff, Nat.reduceAdd, Nat.reduceLT, Nat.reduceLeDiff, Nat.reduceMul, ↓reduceIte, reduceCtorEq]
    refine seq_join (fun _ : Unit => ⟨[(0, .sl 0 0 S.length c), (1, .sl 1 0 0 c'), (4, .p 2 0), (5, .p 3 0), (7, .p 4 0), (8, .sl 5 0 0 0), (10, .b false), (11, .i .i64 0), (12, .i .i64 (-1))], [.ro (encMT.row S), .ro (encJob.row []), .rw ty_impl_MixedRun [.sn, .sn, .i .i64 0] 3, .rw ty_impl_Fraction [.i .i64 nu, .i .i64 de] 2, .rw ty_impl_MixedRun [.sn, .sn, .i .i64 (-1)] 3, .rw ty_int [] 0]⟩) (fun _ => True) ?_ ?_
    · simp only [not_true_eq_false, not_false_eq_true, decide_true, decide_false, Bool.not_true, Bool.not_false, false_implies, true_implies, and_true, true_and, Bool.false_eq_true, Bool.true_eq_false, implies_true, Bool.not_not, Classical.not_not, go_sem, Int.reduceToNat, List.take_nil, Nat.zero_mul, Nat.reduceEqDiff, Nat.reduceAdd, Nat.reduceLT, Nat.reduceLeDiff, Nat.reduceMul, ↓reduceIte, reduceCtorEq]
      exact kJ_intro () trivial (Wk.pickR [0, 1, 2, 3, 4, 5])
    · rintro _ _
      simp only [not_true_eq_false, not_false_eq_true, decide_true, decide_false, Bool.not_true, Bool.not_false, false_implies, true_implies, and_true, true_and, Bool.false_eq_true, Bool.true_eq_false, implies_true, Bool.not_not, Classical.not_not, go_sem, Int.reduceToNat, List.take_nil, Nat.zero_mul, Nat.reduceEqDiff, Nat.reduceAdd, Nat.reduceLT, Nat.reduceLeDiff, Nat.reduceMul, ↓reduceIte, reduceCtorEq]
      refine fun d4 h4 => ⟨fun hneg => ⟨by omega, some (d4, 0 + 1), ⟨by simp only; omega, by simp only; omega⟩, ?_⟩, fun hge => absurd (by decide) hge⟩
      have e2 : encInt.row (List.replicate (0 + 1) (-1)) = [AV.i .i64 (-1)] := rfl
      simp only [e2]
      exact Wk.pickR [0, 1, 2, 3, 4, 5, 7]
  · simp only at hk
    simp only [l1_spec_RunMixed, mxN, not_true_eq_false, not_false_eq_true, decide_true, decide_false, Bool.not_true, Bool.not_false, false_implies, true_implies, and_true, true_and, Bool.false_eq_true, Bool.true_eq_false, implies_true, Bool.not_not, Classical.not_not, go_sem, Int.reduceToNat, List.take_nil, Nat.zero_mul, Nat.reduceEqDiff, Nat.reduceAdd, Nat.reduceLT, Nat.reduceLeDiff, Nat.reduceMul, ↓reduceIte, reduceCtorEq]
    refine ⟨fun hltk => ?_, fun hgek => ?_⟩
    · refine spec_l15Best_ (S := S) (L := []) (Lf := []) (now := k) hL hf rfl (by omega) (Rd.own rfl) (Rd.own rfl) (Rd.own rfl) ?_
      rw [show sBest S nu de [] [] false k = -1 from rfl]
      simp only [not_true_eq_false, not_false_eq_true, decide_true, decide_false, Bool.not_true, Bool.not_false, false_implies, true_implies, and_true, true_and, Bool.false_eq_true, Bool.true_eq_false, implies_true, Bool.not_not, Classical.not_not, go_sem, Int.reduceToNat, List.take_nil, Nat.zero_mul, Nat.reduceEqDiff, Nat.reduceAdd, Nat.reduceLT, Nat.reduceLeDiff, Nat.reduceMul, ↓reduceIte, reduceCtorEq]
      refine seq_join (fun _ : Unit => ⟨[(0, .sl 0 0 S.length c), (1, .sl 1 0 0 c'), (4, .p 2 0), (5, .p 3 0), (7, .p 4 0), (8, .sl 5 0 0 0), (10, .b false), (11, .i .i64 k), (12, .i .i64 (-1))], [.ro (encMT.row S), .ro (encJob.row []), .rw ty_impl_MixedRun [.sn, .sn, .i .i64 0] 3, .rw ty_impl_Fraction [.i .i64 nu, .i .i64 de] 2, .rw ty_impl_MixedRun [.sl 6 0 k c3, .sn, .i .i64 (-1)] 3, .rw ty_int [] 0, .rw ty_int (encInt.row (List.replicate k (-1))) c3]⟩) (fun _ => True) ?_ ?_
      · simp only [not_true_eq_false, not_false_eq_true, decide_true, decide_false, Bool.not_true, Bool.not_false, false_implies, true_implies, and_true, true_and, Bool.false_eq_true, Bool.true_eq_false, implies_true, Bool.not_not, Classical.not_not, go_sem, Int.reduceToNat, List.take_nil, Nat.zero_mul, Nat.reduceEqDiff, Nat.reduceAdd, Nat.reduceLT, Nat.reduceLeDiff, Nat.reduceMul, ↓reduceIte, reduceCtorEq]
        exact kJ_intro () trivial (Wk.pickR [0, 1, 2, 3, 4, 5, 6])
      · rintro _ _
        simp only [lenI, List.length_replicate, not_true_eq_false, not_false_eq_true, decide_true, decide_false, Bool.not_true, Bool.not_false, false_implies, true_implies, and_true, true_and, Bool.false_eq_true, Bool.true_eq_false, implies_true, Bool.not_not, Classical.not_not, go_sem, Int.reduceToNat, List.take_nil, Nat.zero_mul, Nat.reduceEqDiff, Nat.reduceAdd, Nat.reduceLT, Nat.reduceLeDiff, Nat.reduceMul, ↓reduceIte, reduceCtorEq]
        refine ⟨by omega, fun d4 h4 => ⟨fun hneg => ⟨by omega, some (d4, k + 1), ⟨by simp only; omega, by simp only; omega⟩, ?_⟩, fun hge => absurd (by decide) hge⟩⟩
        have e2 : List.take k (encInt.row (List.replicate k (-1))) ++ [AV.i IntKind.i64 (-1)] = encInt.row (List.replicate (k + 1) (-1)) := by
          rw [List.take_of_length_le (by simp [lenI]), appI, ← List.replicate_succ']
        rw [e2]
        simp only [show ((k + 1 : Nat) : Int) = (k : Int) + 1 from by omega]
        exact Wk.pickR [0, 1, 2, 3, 4, 5, 8]
    · have ek : k = 120 := by omega
      subst ek
      obtain ⟨h1, h2, h3⟩ := mix_nil S nu de 120
      have e1 : mixRun S nu de [] = List.replicate 120 (-1) := h2
      have e3 : mixFin S nu de [] = [] := h3
      have e4 : mixSw S nu de [] = -1 := by show (mixS S nu de [] 120).st.first = -1; rw [h1]; rfl
      exact Fin.pickR [0, 1, 6] (.agg [.sl 2 0 120 c3, .sn, .i .i64 (-1)]) [.ro (encMT.row S), .ro (encJob.row []), .rw ty_int (encInt.row (List.replicate 120 (-1))) c3] ⟨_, rfl, .inr ⟨⟨hsc, hL⟩, c3, 0, .inr ⟨e3, by rw [e4], by rw [e1]⟩⟩⟩
theorem spec_RunMixed0 (S : List MTask) (L : List Job) (nu de : Int) (hr : scaleR S = some (nu, de) ∨ scaleR S = none) (hs : S.length ≤ 1048576) (hl : L.length ≤ 1048576) (c c' : Nat) : CallWp Try.prog n_spec_RunMixed [.sl 0 0 S.length c, .sl 1 0 L.length c'] [.ro (encMT.row S), .ro (encJob.row L)]
    (fun x σ' => ∃ τ, σ' = [.ro (encMT.row S), .ro (encJob.row L)] ++ τ ∧ MixQ 2 (mixRunOk S L nu de) (mixRun S nu de L) (mixFin S nu de L) (mixSw S nu de L) x τ) := by
  by_cases hok : mixRunOk S L nu de
  · by_cases h0 : 0 < L.length
    · exact spec_RunMixed_cons S L nu de hok.1 hok.2 h0 c c'
    · obtain rfl : L = [] := List.eq_nil_of_length_eq_zero (by omega)
      exact spec_RunMixed_nil S nu de hok.1 hok.2 c c'
  have no : ∀ τ : List AB, Fin 2 ([.ro (encMT.row S), .ro (encJob.row L)] ++ τ) (.agg [.sn, .sn, .i .i64 0]) (fun x σ' => ∃ τ, σ' = .ro (encMT.row S) :: .ro (encJob.row L) :: τ ∧ MixQ 2 (mixRunOk S L nu de) (mixRun S nu de L) (mixFin S nu de L) (mixSw S nu de L) x τ) := fun τ =>
    Fin.drop (σ := [.ro (encMT.row S), .ro (encJob.row L)]) (Closed.add (σ := []) (fun n B h => by simp at h) (by simp [Go.Abs.cellsIn, Go.Abs.Enc.row_bel])) (Nat.le_refl _) rfl ⟨[], rfl, .inl ⟨hok, rfl, rfl⟩⟩
  refine call_spec_RunMixed (by simp) ?_
  simp only [c_spec_RunMixed, go_sem, Int.reduceToNat, List.take_nil, Nat.zero_mul, Nat.reduceEqDiff, Nat.reduceAdd, Nat.reduceLT, Nat.reduceLeDiff, Nat.reduceMul, ↓reduceIte, reduceCtorEq]
  refine spec_DeadlineScale_ (S := S) (by omega) (Rd.own rfl) ?_
  rcases hr with hsc | hsc
  · rw [hsc]
    simp only [scaleAV, not_true_eq_false, not_false_eq_true, decide_true, decide_false, Bool.not_true, Bool.not_false, false_implies, true_implies, and_true, true_and, Bool.false_eq_true, Bool.true_eq_false, implies_true, Bool.not_not, Classical.not_not, go_sem, Int.reduceToNat, List.take_nil, Nat.zero_mul, Nat.reduceEqDiff, Nat.reduceAdd, Nat.reduceLT, Nat.reduceLeDiff, Nat.reduceMul, ↓reduceIte, reduceCtorEq]
    refine spec_MixedLegal_ (S := S) (L := L) (by omega) (by omega) (Rd.own rfl) (Rd.own rfl) ?_
    have hL : ¬ mixLegal S L := fun h => hok ⟨hsc, h⟩
    simp only [hL, not_true_eq_false, not_false_eq_true, decide_true, decide_false, Bool.not_true, Bool.not_false, false_implies, true_implies, and_true, true_and, Bool.false_eq_true, Bool.true_eq_false, implies_true, Bool.not_not, Classical.not_not, go_sem, Int.reduceToNat, List.take_nil, Nat.zero_mul, Nat.reduceEqDiff, Nat.reduceAdd, Nat.reduceLT, Nat.reduceLeDiff, Nat.reduceMul, ↓reduceIte, reduceCtorEq]
    exact no [_, _]
  · rw [hsc]
    simp only [scaleAV, not_true_eq_false, not_false_eq_true, decide_true, decide_false, Bool.not_true, Bool.not_false, false_implies, true_implies, and_true, true_and, Bool.false_eq_true, Bool.true_eq_false, implies_true, Bool.not_not, Classical.not_not, go_sem, Int.reduceToNat, List.take_nil, Nat.zero_mul, Nat.reduceEqDiff, Nat.reduceAdd, Nat.reduceLT, Nat.reduceLeDiff, Nat.reduceMul, ↓reduceIte, reduceCtorEq]
    exact no [_, _]
theorem spec_RunMixed_ {S : List MTask} {L : List Job} {nu de : Int} (hr : scaleR S = some (nu, de) ∨ scaleR S = none) (hs : S.length ≤ 1048576) (hl : L.length ≤ 1048576) {v u : AV} {σ : List AB} (h : Rd encMT σ v S) (h' : Rd encJob σ u L) {K : AV → List AB → Prop} (hn : ¬ mixRunOk S L nu de → K (.agg [.sn, .sn, .i .i64 0]) σ)
    (hy : mixRunOk S L nu de → ∀ x τ, MixQ σ.length True (mixRun S nu de L) (mixFin S nu de L) (mixSw S nu de L) x τ → K x (σ ++ τ)) : CallWp Try.prog n_spec_RunMixed [v, u] σ K := by
  refine call_news _ (rds_cons h.r (rds1 h'.r)) (fun c => [.sl 0 0 S.length (c 0), .sl 1 0 L.length (c 1)]) (MixQ 2 (mixRunOk S L nu de) (mixRun S nu de L) (mixFin S nu de L) (mixSw S nu de L)) (fun c => spec_RunMixed0 S L nu de hr hs hl (c 0) (c 1)) (fun _ _ h => h.fr) (fun ν c h => ⟨h.1, h.2.1, trivial⟩) (fun _ => rfl) ?_
  rintro x τ (⟨hno, rfl, rfl⟩ | ⟨hyes, c1, c2, ⟨h, rfl, rfl⟩ | ⟨h, rfl, rfl⟩⟩)
  · rw [List.append_nil]; exact hn hno
  · exact hy hyes _ _ (.inr ⟨trivial, c1, c2, .inl ⟨h, rfl, rfl⟩⟩)
  · exact hy hyes _ _ (.inr ⟨trivial, c1, c2, .inr ⟨h, rfl, rfl⟩⟩)
end Go.Proofs.Ytmphblbpofnpaaa
