import Derived.Test.YtdmoafmgeipenaaS15
import Derived.Test.YtdmoafmgeipenaaS8
import Derived.Test.YtdmoafmgeipenaaC4
import Derived.Test.YtdmoafmgeipenaaS51
namespace Go.Proofs.Ytdmoafmgeipenaa
open Go.Abs Go.Ds
set_option linter.unusedSimpArgs false
set_option linter.unusedVariables false
set_option maxRecDepth 20000
set_option maxHeartbeats 4000000
def fitPA (L : List Job) (T : List Int) (c cT capK : Nat) : Option (Nat × Nat × Nat) → St
  | none => ⟨[(0, .sl 0 0 L.length c), (1, .sl 1 0 T.length cT), (5, .p 2 0), (6, .sl 3 0 0 0), (7, .sl 4 0 L.length capK), (8, .i .i64 0)], [.ro (encJob.row L), .ro (encInt.row T), .rw ty_impl_Schedule [.sn, .sn] 2, .rw ty_int [] 0, .rw ty_int (encInt.row (L.map Job.D)) capK]⟩
  | some (c1, c2, k) => ⟨[(0, .sl 0 0 L.length c), (1, .sl 1 0 T.length cT), (5, .p 2 0), (6, .sl 3 0 k c1), (7, .sl 4 0 L.length capK), (8, .i .i64 k)], [.ro (encJob.row L), .ro (encInt.row T), .rw ty_impl_Schedule [.sn, .sl 5 0 k c2] 2, .rw ty_int (encInt.row ((L.take k).map Job.E)) c1, .rw ty_int (encInt.row (L.map Job.D)) capK, .rw ty_int (encInt.row (List.replicate k (-1))) c2]⟩
theorem spec_l17Fits0 (L : List Job) (T : List Int) (hl : L.length ≤ 1000) (hT : T.length ≤ 1000) (hE : ∀ j ∈ L, 0 ≤ j.E ∧ j.E ≤ 1000) (c cT : Nat) :
    CallWp Try.prog n_spec_l17Fits [.sl 0 0 L.length c, .sl 1 0 T.length cT] [.ro (encJob.row L), .ro (encInt.row T)]
      (fun x σ' => x = .b (decide (fitsT L T)) ∧ σ' = [.ro (encJob.row L), .ro (encInt.row T)]) := by
  refine call_spec_l17Fits (by simp) ?_
  simp only [c_spec_l17Fits, not_true_eq_false, not_false_eq_true, decide_true, decide_false, Bool.not_true, Bool.not_false, false_implies, true_implies, and_true, true_and, Bool.false_eq_true, Bool.true_eq_false, implies_true, Bool.not_not, Classical.not_not, go_sem, Int.reduceToNat, List.take_nil, Nat.zero_mul, Nat.reduceEqDiff, Nat.reduceAdd, Nat.reduceLT, Nat.reduceLeDiff, Nat.reduceMul, ↓reduceIte, reduceCtorEq]
  refine spec_l3Deadlines_ (L := L) (by omega) (Rd.own rfl) fun capK => ?_
  simp only [not_true_eq_false, not_false_eq_true, decide_true, decide_false, Bool.not_true, Bool.not_false, false_implies, true_implies, and_true, true_and, Bool.false_eq_true, Bool.true_eq_false, implies_true, Bool.not_not, Classical.not_not, go_sem, Int.reduceToNat, List.take_nil, Nat.zero_mul, Nat.reduceEqDiff, Nat.reduceAdd, Nat.reduceLT, Nat.reduceLeDiff, Nat.reduceMul, ↓reduceIte, reduceCtorEq]
  refine loop_intro (fitPA L T c cT capK) (fun i => match i with | none => True | some (_, _, k) => 1 ≤ k ∧ k ≤ L.length) (fun i => match i with | none => L.length | some (_, _, k) => L.length - k) none trivial (Wk.pick [0, 1, 2, 3, 4]) ?_
  rintro (_ | ⟨c1, c2, k⟩) hk
  · simp only [l1_spec_l17Fits, fitPA, lenJ, not_true_eq_false, not_false_eq_true, decide_true, decide_false, Bool.not_true, Bool.not_false, false_implies, true_implies, and_true, true_and, Bool.false_eq_true, Bool.true_eq_false, implies_true, Bool.not_not, Classical.not_not, go_sem, Int.reduceToNat, List.take_nil, Nat.zero_mul, Nat.reduceEqDiff, Nat.reduceAdd, Nat.reduceLT, Nat.reduceLeDiff, Nat.reduceMul, ↓reduceIte, reduceCtorEq]
    refine ⟨fun h => ?_, fun h => ?_⟩
    · have hne : 0 < L.length := by omega
      simp only [lenJ, rdJ3 hne, not_true_eq_false, not_false_eq_true, decide_true, decide_false, Bool.not_true, Bool.not_false, false_implies, true_implies, and_true, true_and, Bool.false_eq_true, Bool.true_eq_false, implies_true, Bool.not_not, Classical.not_not, go_sem, Int.reduceToNat, List.take_nil, Nat.zero_mul, Nat.reduceEqDiff, Nat.reduceAdd, Nat.reduceLT, Nat.reduceLeDiff, Nat.reduceMul, ↓reduceIte, reduceCtorEq]
      refine ⟨by omega, by omega, fun c1 h1 c2 h2 => ⟨by omega, some (c1, c2, 1), ⟨by simp only; omega, by simp only; omega⟩, ?_⟩⟩
      have e : encInt.row ((L.take 1).map Job.E) = [AV.i .i64 L[0].E] := by
        rw [List.take_succ_eq_append_getElem hne]; rfl
      have e2 : encInt.row (List.replicate 1 (-1)) = [AV.i .i64 (-1)] := rfl
      simp only [e, e2]
      exact Wk.pickR [0, 1, 2, 6, 4, 8]
    · -- no jobs
      obtain rfl : L = [] := List.eq_nil_of_length_eq_zero (by omega)
      refine loop_count 120 (fun k => ⟨[(0, .sl 0 0 ([] : List Job).length c), (1, .sl 1 0 T.length cT), (5, .p 2 0), (6, .sl 3 0 0 0), (7, .sl 4 0 ([] : List Job).length capK), (9, .i .i64 k)], [.ro (encJob.row []), .ro (encInt.row T), .rw ty_impl_Schedule [.sn, .sn] 2, .rw ty_int [] 0, .rw ty_int (encInt.row (([] : List Job).map Job.D)) capK]⟩)
        (fun _ => True) trivial (Wk.pick [0, 1, 2, 3, 4]) fun k hk120 _ => ?_
      simp only [l0_spec_l17Fits, not_true_eq_false, not_false_eq_true, decide_true, decide_false, Bool.not_true, Bool.not_false, false_implies, true_implies, and_true, true_and, Bool.false_eq_true, Bool.true_eq_false, implies_true, Bool.not_not, Classical.not_not, go_sem, Int.reduceToNat, List.take_nil, Nat.zero_mul, Nat.reduceEqDiff, Nat.reduceAdd, Nat.reduceLT, Nat.reduceLeDiff, Nat.reduceMul, ↓reduceIte, reduceCtorEq]
      refine ⟨fun hlt => ?_, fun hge => ?_⟩
      · refine spec_l4Index_ (L := T) (k : Int) (by omega) (Rd.own rfl) ?_
        simp only [not_true_eq_false, not_false_eq_true, decide_true, decide_false, Bool.not_true, Bool.not_false, false_implies, true_implies, and_true, true_and, Bool.false_eq_true, Bool.true_eq_false, implies_true, Bool.not_not, Classical.not_not, go_sem, Int.reduceToNat, List.take_nil, Nat.zero_mul, Nat.reduceEqDiff, Nat.reduceAdd, Nat.reduceLT, Nat.reduceLeDiff, Nat.reduceMul, ↓reduceIte, reduceCtorEq]
        refine ⟨fun h0 => ⟨by omega, by omega, Wk.pick [0, 1, 2, 3, 4]⟩, fun h0 => ?_⟩
        refine spec_l3Best_ (L := []) (lf := []) (ks := []) (now := k) (by omega) (by simp) rfl rfl (Rd.own rfl) (Rd.own' rfl rfl) (Rd.own' rfl rfl) ?_
        rw [show bestF ([] : List Job).length (fun i => decide ((([] : List Job).getD i default).R ≤ (k : Int) ∧ 0 < gI [] i)) (fun i => gI [] i) = -1 from rfl]
        simp only [not_true_eq_false, not_false_eq_true, decide_true, decide_false, Bool.not_true, Bool.not_false, false_implies, true_implies, and_true, true_and, Bool.false_eq_true, Bool.true_eq_false, implies_true, Bool.not_not, Classical.not_not, go_sem, Int.reduceToNat, List.take_nil, Nat.zero_mul, Nat.reduceEqDiff, Nat.reduceAdd, Nat.reduceLT, Nat.reduceLeDiff, Nat.reduceMul, ↓reduceIte, reduceCtorEq]
        exact ⟨fun h => absurd h (by decide), fun _ => ⟨by omega, by omega, Wk.pick [0, 1, 2, 3, 4]⟩⟩
      · refine spec_l3Missed_ (L := []) (fin := []) (by simp) rfl rfl rfl (.inr ⟨rfl, rfl⟩) fun cap hcap => ?_
        simp only [not_true_eq_false, not_false_eq_true, decide_true, decide_false, Bool.not_true, Bool.not_false, false_implies, true_implies, and_true, true_and, Bool.false_eq_true, Bool.true_eq_false, implies_true, Bool.not_not, Classical.not_not, go_sem, Int.reduceToNat, List.take_nil, Nat.zero_mul, Nat.reduceEqDiff, Nat.reduceAdd, Nat.reduceLT, Nat.reduceLeDiff, Nat.reduceMul, ↓reduceIte, reduceCtorEq]
        refine Fin.pick [0, 1] (.b (decide (missedL [] [] = []))) _ ⟨?_, rfl⟩
        congr 1
  · simp only at hk
    simp only [l1_spec_l17Fits, fitPA, lenJ, not_true_eq_false, not_false_eq_true, decide_true, decide_false, Bool.not_true, Bool.not_false, false_implies, true_implies, and_true, true_and, Bool.false_eq_true, Bool.true_eq_false, implies_true, Bool.not_not, Classical.not_not, go_sem, Int.reduceToNat, List.take_nil, Nat.zero_mul, Nat.reduceEqDiff, Nat.reduceAdd, Nat.reduceLT, Nat.reduceLeDiff, Nat.reduceMul, ↓reduceIte, reduceCtorEq]
    refine ⟨fun hlt => ?_, fun hlt => ?_⟩
    · simp only [lenJ, rdJ3 hlt, lenI, List.length_map, List.length_take, List.length_replicate, Nat.min_eq_left hk.2, not_true_eq_false, not_false_eq_true, decide_true, decide_false, Bool.not_true, Bool.not_false, false_implies, true_implies, and_true, true_and, Bool.false_eq_true, Bool.true_eq_false, implies_true, Bool.not_not, Classical.not_not, go_sem, Int.reduceToNat, List.take_nil, Nat.zero_mul, Nat.reduceEqDiff, Nat.reduceAdd, Nat.reduceLT, Nat.reduceLeDiff, Nat.reduceMul, ↓reduceIte, reduceCtorEq]
      refine ⟨hlt, by omega, by omega, fun d1 h1 => ⟨by omega, fun d2 h2 => ⟨by omega, some (d1, d2, k + 1), ⟨by simp only; omega, by simp only; omega⟩, ?_⟩⟩⟩
      have e1 : List.take k (encInt.row (List.map Job.E (List.take k L))) ++ [AV.i IntKind.i64 L[k].E] = encInt.row (List.map Job.E (List.take (k + 1) L)) := by
        rw [List.take_of_length_le (by simp [lenI]; omega), List.take_succ_eq_append_getElem hlt, List.map_append, appI]; rfl
      have e2 : List.take k (encInt.row (List.replicate k (-1))) ++ [AV.i IntKind.i64 (-1)] = encInt.row (List.replicate (k + 1) (-1)) := by
        rw [List.take_of_length_le (by simp [lenI]), appI, ← List.replicate_succ']
      rw [e1, e2]
      exact Wk.pickR [0, 1, 2, 7, 4, 9]
    · have ek : k = L.length := by omega
      subst ek
      rw [List.take_length, ← leftOf_zero]
      have hlens := fun q => sim_lens (L := L) (pick := fun _ now done => (takenPick T L now done, ())) (s0 := ()) q
      have hdone := sim_done (L := L) (pick := fun _ now done => (takenPick T L now done, ())) (s0 := ()) (fun _ now done => ((taken_fair T L).lt now done).2)
      refine loop_count 120 (fun k => ⟨[(0, .sl 0 0 L.length c), (1, .sl 1 0 T.length cT), (5, .p 2 0), (6, .sl 3 0 L.length c1), (7, .sl 4 0 L.length capK), (9, .i .i64 k)], [.ro (encJob.row L), .ro (encInt.row T), .rw ty_impl_Schedule [.sn, .sl 5 0 L.length c2] 2, .rw ty_int (encInt.row (leftOf L (simU L (takenPick T L) k).done)) c1, .rw ty_int (encInt.row (L.map Job.D)) capK, .rw ty_int (encInt.row (simU L (takenPick T L) k).fin) c2]⟩)
        (fun _ => True) trivial (Wk.pick [0, 1, 2, 3, 4, 5]) fun k hk120 _ => ?_
      simp only [l0_spec_l17Fits, not_true_eq_false, not_false_eq_true, decide_true, decide_false, Bool.not_true, Bool.not_false, false_implies, true_implies, and_true, true_and, Bool.false_eq_true, Bool.true_eq_false, implies_true, Bool.not_not, Classical.not_not, go_sem, Int.reduceToNat, List.take_nil, Nat.zero_mul, Nat.reduceEqDiff, Nat.reduceAdd, Nat.reduceLT, Nat.reduceLeDiff, Nat.reduceMul, ↓reduceIte, reduceCtorEq]
      refine ⟨fun hlt => ?_, fun hge => ?_⟩
      · refine spec_l4Index_ (L := T) (k : Int) (by omega) (Rd.own rfl) ?_
        simp only [not_true_eq_false, not_false_eq_true, decide_true, decide_false, Bool.not_true, Bool.not_false, false_implies, true_implies, and_true, true_and, Bool.false_eq_true, Bool.true_eq_false, implies_true, Bool.not_not, Classical.not_not, go_sem, Int.reduceToNat, List.take_nil, Nat.zero_mul, Nat.reduceEqDiff, Nat.reduceAdd, Nat.reduceLT, Nat.reduceLeDiff, Nat.reduceMul, ↓reduceIte, reduceCtorEq]
        have hneg := @simU_neg L (takenPick T L) k
        have hpos := @simU_pos L (takenPick T L) k
        refine ⟨fun h0 => ?_, fun h0 => ?_⟩
        · have hin : (k : Int) ∈ T := idxF_mem.1 h0
          have hp : takenPick T L k (simU L (takenPick T L) k).done = -1 := by unfold takenPick; rw [if_pos hin]
          obtain ⟨e1, e2, _⟩ := hneg (by rw [hp]; decide)
          refine ⟨by omega, by omega, ?_⟩
          rw [e1, e2]
          exact Wk.pick [0, 1, 2, 3, 4, 5]
        · have hin : (k : Int) ∉ T := fun h => h0 (idxF_mem.2 h)
          have hp : takenPick T L k (simU L (takenPick T L) k).done = keyPick L (L.map Job.D) k (simU L (takenPick T L) k).done := by unfold takenPick; rw [if_neg hin, edf_key]
          refine spec_l3Best_ (L := L) (ks := L.map Job.D) (now := k) (by omega) (by omega) (leftOf_length _ _) (by simp) (Rd.own rfl) (Rd.len' rfl (leftOf_length _ _)) (Rd.len' rfl (by simp)) ?_
          rw [keyPick_left, ← hp]
          have hlk := hlens k
          have hdk := hdone k
          have hpk := (taken_fair T L).lt k (simU L (takenPick T L) k).done
          have hlo := leftOf_length L (simU L (takenPick T L) k).done
          change (simU L (takenPick T L) k).done.length = L.length ∧ (simU L (takenPick T L) k).fin.length = L.length ∧ (simU L (takenPick T L) k).run.length = k at hlk
          change ∀ (i : Nat), i < L.length → 0 ≤ gI (simU L (takenPick T L) k).done i ∧ gI (simU L (takenPick T L) k).done i ≤ k at hdk
          clear hp
          generalize hsk : simU L (takenPick T L) k = s at *
          obtain ⟨l1, l2, l3⟩ := hlk
          generalize hi : takenPick T L k s.done = i at *
          simp only [lenI, not_true_eq_false, not_false_eq_true, decide_true, decide_false, Bool.not_true, Bool.not_false, false_implies, true_implies, and_true, true_and, Bool.false_eq_true, Bool.true_eq_false, implies_true, Bool.not_not, Classical.not_not, go_sem, Int.reduceToNat, List.take_nil, Nat.zero_mul, Nat.reduceEqDiff, Nat.reduceAdd, Nat.reduceLT, Nat.reduceLeDiff, Nat.reduceMul, ↓reduceIte, reduceCtorEq]
          refine ⟨fun hge => ?_, fun hneg0 => ?_⟩
          · obtain ⟨n, rfl⟩ := Int.eq_ofNat_of_zero_le (show 0 ≤ i by omega)
            have hnL : n < L.length := by omega
            have hnl : n < (leftOf L s.done).length := by omega
            have hnf : n < s.fin.length := by omega
            obtain ⟨e1, e2, e3⟩ := hpos rfl hnL
            have gl : gI (leftOf L s.done) n = (leftOf L s.done)[n] := by simp [gI, List.getD_eq_getElem?_getD, hnl]
            rw [gl] at e1 e2
            have hv : (leftOf L s.done)[n] = (L.getD n default).E - gI s.done n := leftOf_get _ _ _ _
            have hEn := hE _ (List.getElem_mem hnL)
            have hLn : L.getD n default = L[n] := by simp [List.getD_eq_getElem?_getD, hnL]
            rw [hLn] at hv
            have hdn := hdk n hnL
            have hns : n < ((leftOf L s.done).set n ((leftOf L s.done)[n] - 1)).length := by rw [List.length_set]; exact hnl
            have gs : ((leftOf L s.done).set n ((leftOf L s.done)[n] - 1))[n] = (leftOf L s.done)[n] - 1 := List.getElem_set_self ..
            simp only [Int.toNat_natCast, rdI hnl, splI hnl, rdI hns, gs, splI hnf, List.length_set, lenI, hlo, l2, not_true_eq_false, not_false_eq_true, decide_true, decide_false, Bool.not_true, Bool.not_false, false_implies, true_implies, and_true, true_and, Bool.false_eq_true, Bool.true_eq_false, implies_true, Bool.not_not, Classical.not_not, go_sem, Int.reduceToNat, List.take_nil, Nat.zero_mul, Nat.reduceEqDiff, Nat.reduceAdd, Nat.reduceLT, Nat.reduceLeDiff, Nat.reduceMul, ↓reduceIte, reduceCtorEq]
            iterate 7 refine ⟨by omega, ?_⟩
            refine ⟨fun he => ?_, fun he => ?_⟩
            · iterate 5 refine ⟨by omega, ?_⟩
              rw [if_pos he] at e2
              simp only [e1, e2]
              exact Wk.pickR [0, 1, 2, 3, 4, 5]
            · iterate 2 refine ⟨by omega, ?_⟩
              rw [if_neg he] at e2
              simp only [e1, e2]
              exact Wk.pickR [0, 1, 2, 3, 4, 5]
          · obtain ⟨e1, e2, _⟩ := hneg (by omega)
            refine ⟨by omega, by omega, ?_⟩
            rw [e1, e2]
            exact Wk.pick [0, 1, 2, 3, 4, 5]
      · have ek : k = 120 := by omega
        subst ek
        have hf : (takeFin T L).length = L.length := takeFin_len T L
        refine spec_l3Missed_ (L := L) (fin := takeFin T L) (by omega) hf rfl rfl (.inl ⟨5, c2, by rw [hf], rfl⟩) fun cap hcap => ?_
        simp only [not_true_eq_false, not_false_eq_true, decide_true, decide_false, Bool.not_true, Bool.not_false, false_implies, true_implies, and_true, true_and, Bool.false_eq_true, Bool.true_eq_false, implies_true, Bool.not_not, Classical.not_not, go_sem, Int.reduceToNat, List.take_nil, Nat.zero_mul, Nat.reduceEqDiff, Nat.reduceAdd, Nat.reduceLT, Nat.reduceLeDiff, Nat.reduceMul, ↓reduceIte, reduceCtorEq]
        refine Fin.pick [0, 1] (.b (decide (missedL L (takeFin T L) = []))) _ ⟨?_, rfl⟩
        congr 1
theorem spec_l17Fits_ {L : List Job} {T : List Int} (hl : L.length ≤ 1000) (hT : T.length ≤ 1000) (hE : ∀ j ∈ L, 0 ≤ j.E ∧ j.E ≤ 1000) {v u : AV} {σ : List AB} (h : Rd encJob σ v L) (h' : Rd encInt σ u T) {K : AV → List AB → Prop} (hk : K (.b (decide (fitsT L T))) σ) : CallWp Try.prog n_spec_l17Fits [v, u] σ K :=
  call_rds _ (rds_cons h.r (rds1 h'.r)) (fun c => [.sl 0 0 L.length (c 0), .sl 1 0 T.length (c 1)]) (fun c => spec_l17Fits0 L T hl hT hE (c 0) (c 1)) (fun ν c h => ⟨h.1, h.2.1, trivial⟩) (fun _ => rfl) rfl hk
end Go.Proofs.Ytdmoafmgeipenaa
