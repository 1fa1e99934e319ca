import Derived.Test.YtdmoafmgeipenaaS8
import Derived.Test.YtdmoafmgeipenaaS10
namespace Go.Proofs.Ytdmoafmgeipenaa
open Go.Abs Go.Ds
set_option linter.unusedSimpArgs false
set_option linter.unusedVariables false
set_option maxRecDepth 20000
set_option maxHeartbeats 1000000
def runPA (L : List Job) (f n : Int) (c capK : Nat) : Option (Nat × Nat × Nat) → St
  | none => ⟨[(0, .sl 0 0 L.length c), (1, .i .i64 f), (2, .i .i64 n), (6, .p 1 0), (7, .p 2 0), (8, .sl 3 0 0 0), (9, .sl 4 0 L.length capK), (10, .i .i64 0)], [.ro (encJob.row L), .rw ty_impl_Schedule [.sn, .sn] 2, .rw ty_impl_Schedule [.sn, .sn] 2, .rw ty_int [] 0, .rw ty_int (encInt.row (L.map Job.D)) capK]⟩
  | some (c1, c2, k) => ⟨[(0, .sl 0 0 L.length c), (1, .i .i64 f), (2, .i .i64 n), (6, .p 1 0), (7, .p 2 0), (8, .sl 3 0 k c1), (9, .sl 4 0 L.length capK), (10, .i .i64 k)], [.ro (encJob.row L), .rw ty_impl_Schedule [.sn, .sn] 2, .rw ty_impl_Schedule [.sn, .sl 5 0 k c2] 2, .rw ty_int (encInt.row ((L.take k).map Job.E)) c1, .rw ty_int (encInt.row (L.map Job.D)) capK, .rw ty_int (encInt.row (List.replicate k (-1))) c2]⟩
def runPB (L : List Job) (f n : Int) (c capK c1 c2 : Nat) : Option (Nat × Nat) → St
  | none => ⟨[(0, .sl 0 0 L.length c), (1, .i .i64 f), (2, .i .i64 n), (6, .p 1 0), (7, .p 2 0), (8, .sl 3 0 L.length c1), (9, .sl 4 0 L.length capK), (11, .i .i64 0)], [.ro (encJob.row L), .rw ty_impl_Schedule [.sn, .sn] 2, .rw ty_impl_Schedule [.sn, .sl 5 0 L.length c2] 2, .rw ty_int (encInt.row (leftOf L (simU L (pausePick f n L) 0).done)) c1, .rw ty_int (encInt.row (L.map Job.D)) capK, .rw ty_int (encInt.row (simU L (pausePick f n L) 0).fin) c2]⟩
  | some (c3, k) => ⟨[(0, .sl 0 0 L.length c), (1, .i .i64 f), (2, .i .i64 n), (6, .p 1 0), (7, .p 2 0), (8, .sl 3 0 L.length c1), (9, .sl 4 0 L.length capK), (11, .i .i64 k)], [.ro (encJob.row L), .rw ty_impl_Schedule [.sn, .sn] 2, .rw ty_impl_Schedule [.sl 6 0 k c3, .sl 5 0 L.length c2] 2, .rw ty_int (encInt.row (leftOf L (simU L (pausePick f n L) k).done)) c1, .rw ty_int (encInt.row (L.map Job.D)) capK, .rw ty_int (encInt.row (simU L (pausePick f n L) k).fin) c2, .rw ty_int (encInt.row (simU L (pausePick f n L) k).run) c3]⟩
theorem pause_pick {L : List Job} {f n : Int} {now : Nat} {done : List Int} : pausePick f n L now done = if (now : Int) < f ∨ n ≤ now - f then keyPick L (L.map Job.D) now done else -1 := by
  rw [edf_key]
  unfold pausePick
  by_cases h : f ≤ now ∧ (now : Int) < f + n
  · rw [if_pos h, if_neg (by omega)]
  · rw [if_neg h, if_pos (by omega)]
theorem spec_l17Run_cons (L : List Job) (f n : Int) (hfb : 0 ≤ f ∧ f ≤ 1000) (hnb : 0 ≤ n ∧ n ≤ 1000) (hl : L.length ≤ 1000) (hne : 0 < L.length) (hE : ∀ j ∈ L, 0 ≤ j.E ∧ j.E ≤ 1000) (c : Nat) :
    CallWp Try.prog n_spec_l17Run [.sl 0 0 L.length c, .i .i64 f, .i .i64 n] [.ro (encJob.row L)]
      (fun x σ' => ∃ τ, σ' = [.ro (encJob.row L)] ++ τ ∧ SchedQ 1 True (simU L (pausePick f n L) 120).run (simU L (pausePick f n L) 120).fin x τ) := by
  refine call_spec_l17Run (by simp) ?_
  simp only [c_spec_l17Run, not_true_eq_false, not_false_eq_true, decide_true, decide_false, Bool.not_true, Bool.not_false, false_implies, true_implies, and_true, true_and, Bool.false_eq_true, Bool.true_eq_false, implies_true, Bool.not_not, Classical.not_not, go_sem, Int.reduceToNat, List.take_nil, Nat.zero_mul, Nat.reduceEqDiff, Nat.reduceAdd, Nat.reduceLT, Nat.reduceLeDiff, Nat.reduceMul, ↓reduceIte, reduceCtorEq]
  refine spec_l3Deadlines_ (L := L) (by omega) (Rd.own rfl) fun capK => ?_
  simp only [not_true_eq_false, not_false_eq_true, decide_true, decide_false, Bool.not_true, Bool.not_false, false_implies, true_implies, and_true, true_and, Bool.false_eq_true, Bool.true_eq_false, implies_true, Bool.not_not, Classical.not_not, go_sem, Int.reduceToNat, List.take_nil, Nat.zero_mul, Nat.reduceEqDiff, Nat.reduceAdd, Nat.reduceLT, Nat.reduceLeDiff, Nat.reduceMul, ↓reduceIte, reduceCtorEq]
  refine loop_intro (runPA L f n c capK) (fun i => match i with | none => True | some (_, _, k) => 1 ≤ k ∧ k ≤ L.length) (fun i => match i with | none => L.length | some (_, _, k) => L.length - k) none trivial (Wk.pick [0, 1, 2, 3, 4]) ?_
  rintro (_ | ⟨c1, c2, k⟩) hk
  · simp only [l1_spec_l17Run, runPA, lenJ, rdJ3 hne, not_true_eq_false, not_false_eq_true, decide_true, decide_false, Bool.not_true, Bool.not_false, false_implies, true_implies, and_true, true_and, Bool.false_eq_true, Bool.true_eq_false, implies_true, Bool.not_not, Classical.not_not, go_sem, Int.reduceToNat, List.take_nil, Nat.zero_mul, Nat.reduceEqDiff, Nat.reduceAdd, Nat.reduceLT, Nat.reduceLeDiff, Nat.reduceMul, ↓reduceIte, reduceCtorEq]
    refine ⟨fun h => ⟨by omega, by omega, fun c1 h1 c2 h2 => ⟨by omega, some (c1, c2, 1), ⟨by simp only; omega, by simp only; omega⟩, ?_⟩⟩, fun h => absurd (show (0 : Int) < L.length by omega) h⟩
    have e : encInt.row ((L.take 1).map Job.E) = [AV.i .i64 L[0].E] := by
      rw [List.take_succ_eq_append_getElem hne]; rfl
    have e2 : encInt.row (List.replicate 1 (-1)) = [AV.i .i64 (-1)] := rfl
    simp only [e, e2]
    exact Wk.pickR [0, 1, 2, 6, 4, 8]
  · simp only at hk
    simp only [l1_spec_l17Run, runPA, lenJ, not_true_eq_false, not_false_eq_true, decide_true, decide_false, Bool.not_true, Bool.not_false, false_implies, true_implies, and_true, true_and, Bool.false_eq_true, Bool.true_eq_false, implies_true, Bool.not_not, Classical.not_not, go_sem, Int.reduceToNat, List.take_nil, Nat.zero_mul, Nat.reduceEqDiff, Nat.reduceAdd, Nat.reduceLT, Nat.reduceLeDiff, Nat.reduceMul, ↓reduceIte, reduceCtorEq]
    refine ⟨fun hlt => ?_, fun hlt => ?_⟩
    · simp only [lenJ, rdJ3 hlt, lenI, List.length_map, List.length_take, List.length_replicate, Nat.min_eq_left hk.2, not_true_eq_false, not_false_eq_true, decide_true, decide_false, Bool.not_true, Bool.not_false, false_implies, true_implies, and_true, true_and, Bool.false_eq_true, Bool.true_eq_false, implies_true, Bool.not_not, Classical.not_not, go_sem, Int.reduceToNat, List.take_nil, Nat.zero_mul, Nat.reduceEqDiff, Nat.reduceAdd, Nat.reduceLT, Nat.reduceLeDiff, Nat.reduceMul, ↓reduceIte, reduceCtorEq]
      refine ⟨hlt, by omega, by omega, fun d1 h1 => ⟨by omega, fun d2 h2 => ⟨by omega, some (d1, d2, k + 1), ⟨by simp only; omega, by simp only; omega⟩, ?_⟩⟩⟩
      have e1 : List.take k (encInt.row (List.map Job.E (List.take k L))) ++ [AV.i IntKind.i64 L[k].E] = encInt.row (List.map Job.E (List.take (k + 1) L)) := by
        rw [List.take_of_length_le (by simp [lenI]; omega), List.take_succ_eq_append_getElem hlt, List.map_append, appI]; rfl
      have e2 : List.take k (encInt.row (List.replicate k (-1))) ++ [AV.i IntKind.i64 (-1)] = encInt.row (List.replicate (k + 1) (-1)) := by
        rw [List.take_of_length_le (by simp [lenI]), appI, ← List.replicate_succ']
      rw [e1, e2]
      exact Wk.pickR [0, 1, 2, 7, 4, 9]
    · have ek : k = L.length := by omega
      subst ek
      rw [List.take_length, ← leftOf_zero]
      have hlens := fun q => sim_lens (L := L) (pick := fun _ now done => (pausePick f n L now done, ())) (s0 := ()) q
      have hdone := sim_done (L := L) (pick := fun _ now done => (pausePick f n L now done, ())) (s0 := ()) (fun _ now done => ((pause_fair f n L).lt now done).2)
      refine loop_intro (runPB L f n c capK c1 c2) (fun i => match i with | none => True | some (_, k) => 1 ≤ k ∧ k ≤ 120) (fun i => match i with | none => 120 | some (_, k) => 120 - k) none trivial (Wk.pick [0, 1, 2, 3, 4, 5]) ?_
      rintro (_ | ⟨c3, k⟩) hk
      · simp only [l0_spec_l17Run, runPB, not_true_eq_false, not_false_eq_true, decide_true, decide_false, Bool.not_true, Bool.not_false, false_implies, true_implies, and_true, true_and, Bool.false_eq_true, Bool.true_eq_false, implies_true, Bool.not_not, Classical.not_not, go_sem, Int.reduceToNat, List.take_nil, Nat.zero_mul, Nat.reduceEqDiff, Nat.reduceAdd, Nat.reduceLT, Nat.reduceLeDiff, Nat.reduceMul, ↓reduceIte, reduceCtorEq]
        refine ⟨fun _ => ?_, fun h => absurd (by decide) h⟩
        refine seq_join (fun _ : Unit => ⟨[(0, .sl 0 0 L.length c), (1, .i .i64 f), (2, .i .i64 n), (6, .p 1 0), (7, .p 2 0), (8, .sl 3 0 L.length c1), (9, .sl 4 0 L.length capK), (11, .i .i64 0), (12, .i .i64 (pausePick f n L 0 (simU L (pausePick f n L) 0).done))], [.ro (encJob.row L), .rw ty_impl_Schedule [.sn, .sn] 2, .rw ty_impl_Schedule [.sn, .sl 5 0 L.length c2] 2, .rw ty_int (encInt.row (leftOf L (simU L (pausePick f n L) 0).done)) c1, .rw ty_int (encInt.row (L.map Job.D)) capK, .rw ty_int (encInt.row (simU L (pausePick f n L) 0).fin) c2]⟩) (fun _ => True) ?_ fun _ _ => ?_
        · have hpp := @pause_pick L f n 0 (simU L (pausePick f n L) 0).done
          simp only [not_true_eq_false, not_false_eq_true, decide_true, decide_false, Bool.not_true, Bool.not_false, false_implies, true_implies, and_true, true_and, Bool.false_eq_true, Bool.true_eq_false, implies_true, Bool.not_not, Classical.not_not, go_sem, Int.reduceToNat, List.take_nil, Nat.zero_mul, Nat.reduceEqDiff, Nat.reduceAdd, Nat.reduceLT, Nat.reduceLeDiff, Nat.reduceMul, ↓reduceIte, reduceCtorEq]
          refine ⟨fun g1 => ⟨by omega, fun g2 => ?_, fun g2 => ?_⟩, fun g1 => ?_⟩
          · refine spec_l3Best_ (L := L) (ks := L.map Job.D) (now := 0) (by omega) (by omega) (leftOf_length _ _) (by simp) (Rd.own rfl) (Rd.len' rfl (leftOf_length _ _)) (Rd.len' rfl (by simp)) ?_
            rw [if_pos (by omega)] at hpp
            rw [keyPick_left, ← hpp]
            simp only [go_sem, Int.reduceToNat, List.take_nil, Nat.zero_mul, Nat.reduceEqDiff, Nat.reduceAdd, Nat.reduceLT, Nat.reduceLeDiff, Nat.reduceMul, ↓reduceIte, reduceCtorEq]
            exact kJ_intro () trivial (Wk.keep (by simp [look_cons]))
          · rw [if_neg (by omega)] at hpp
            rw [hpp]
            exact kJ_intro () trivial (Wk.keep (by simp [look_cons]))
          · refine spec_l3Best_ (L := L) (ks := L.map Job.D) (now := 0) (by omega) (by omega) (leftOf_length _ _) (by simp) (Rd.own rfl) (Rd.len' rfl (leftOf_length _ _)) (Rd.len' rfl (by simp)) ?_
            rw [if_pos (by omega)] at hpp
            rw [keyPick_left, ← hpp]
            simp only [go_sem, Int.reduceToNat, List.take_nil, Nat.zero_mul, Nat.reduceEqDiff, Nat.reduceAdd, Nat.reduceLT, Nat.reduceLeDiff, Nat.reduceMul, ↓reduceIte, reduceCtorEq]
            exact kJ_intro () trivial (Wk.keep (by simp [look_cons]))
        have hlk := hlens 0
        have hdk := hdone 0
        have hpk := (pause_fair f n L).lt 0 (simU L (pausePick f n L) 0).done
        have hneg := @simU_neg L (pausePick f n L) 0
        have hpos := @simU_pos L (pausePick f n L) 0
        have hlo := leftOf_length L (simU L (pausePick f n L) 0).done
        change (simU L (pausePick f n L) 0).done.length = L.length ∧ (simU L (pausePick f n L) 0).fin.length = L.length ∧ (simU L (pausePick f n L) 0).run.length = 0 at hlk
        change ∀ (i : Nat), i < L.length → 0 ≤ gI (simU L (pausePick f n L) 0).done i ∧ gI (simU L (pausePick f n L) 0).done i ≤ 0 at hdk
        generalize simU L (pausePick f n L) 0 = s at *
        have hsk : True := trivial
        obtain ⟨l1, l2, l3⟩ := hlk
        generalize hi : pausePick f n L 0 s.done = i at *
        simp only [lenI, not_true_eq_false, not_false_eq_true, decide_true, decide_false, Bool.not_true, Bool.not_false, false_implies, true_implies, and_true, true_and, Bool.false_eq_true, Bool.true_eq_false, implies_true, Bool.not_not, Classical.not_not, go_sem, Int.reduceToNat, List.take_nil, Nat.zero_mul, Nat.reduceEqDiff, Nat.reduceAdd, Nat.reduceLT, Nat.reduceLeDiff, Nat.reduceMul, ↓reduceIte, reduceCtorEq]
        refine fun d3 hd3 => ⟨fun hge => ?_, fun hneg0 => ?_⟩
        · obtain ⟨n, rfl⟩ := Int.eq_ofNat_of_zero_le (show 0 ≤ i by omega)
          have hnL : n < L.length := by omega
          have hnl : n < (leftOf L s.done).length := by omega
          have hnf : n < s.fin.length := by omega
          obtain ⟨e1, e2, e3⟩ := hpos rfl hnL
          have gl : gI (leftOf L s.done) n = (leftOf L s.done)[n] := by simp [gI, List.getD_eq_getElem?_getD, hnl]
          rw [gl] at e1 e2
          have hv : (leftOf L s.done)[n] = (L.getD n default).E - gI s.done n := leftOf_get _ _ _ _
          have hEn := hE _ (List.getElem_mem hnL)
          have hLn : L.getD n default = L[n] := by simp [List.getD_eq_getElem?_getD, hnL]
          rw [hLn] at hv
          have hdn := hdk n hnL
          have hns : n < ((leftOf L s.done).set n ((leftOf L s.done)[n] - 1)).length := by rw [List.length_set]; exact hnl
          have gs : ((leftOf L s.done).set n ((leftOf L s.done)[n] - 1))[n] = (leftOf L s.done)[n] - 1 := List.getElem_set_self ..
          simp only [Int.toNat_natCast, rdI hnl, splI hnl, rdI hns, gs, splI hnf, List.length_set, lenI, hlo, l2, not_true_eq_false, not_false_eq_true, decide_true, decide_false, Bool.not_true, Bool.not_false, false_implies, true_implies, and_true, true_and, Bool.false_eq_true, Bool.true_eq_false, implies_true, Bool.not_not, Classical.not_not, go_sem, Int.reduceToNat, List.take_nil, Nat.zero_mul, Nat.reduceEqDiff, Nat.reduceAdd, Nat.reduceLT, Nat.reduceLeDiff, Nat.reduceMul, ↓reduceIte, reduceCtorEq]
          repeat refine ⟨by omega, ?_⟩
          refine ⟨fun he => ?_, fun he => ?_⟩
          · repeat refine ⟨by omega, ?_⟩
            refine ⟨some (d3, 0 + 1), ⟨by simp only; omega, by simp only; omega⟩, ?_⟩
            rw [if_pos he] at e2
            simp only [e1, e2, e3]
            have er : [AV.i IntKind.i64 n] = encInt.row (s.run ++ [(n : Int)]) := by rw [List.eq_nil_of_length_eq_zero l3]; rfl
            try rw [er]
            exact Wk.pickR [0, 1, 2, 3, 4, 5, 7]
          · repeat refine ⟨by omega, ?_⟩
            refine ⟨some (d3, 0 + 1), ⟨by simp only; omega, by simp only; omega⟩, ?_⟩
            rw [if_neg he] at e2
            simp only [e1, e2, e3]
            have er : [AV.i IntKind.i64 n] = encInt.row (s.run ++ [(n : Int)]) := by rw [List.eq_nil_of_length_eq_zero l3]; rfl
            try rw [er]
            exact Wk.pickR [0, 1, 2, 3, 4, 5, 7]
        · repeat refine ⟨by omega, ?_⟩
          refine ⟨some (d3, 0 + 1), ⟨by simp only; omega, by simp only; omega⟩, ?_⟩
          obtain ⟨e1, e2, e3⟩ := hneg (by omega)
          simp only [e1, e2, e3]
          have er : [AV.i IntKind.i64 i] = encInt.row (s.run ++ [i]) := by rw [List.eq_nil_of_length_eq_zero l3]; rfl
          try rw [er]
          exact Wk.pickR [0, 1, 2, 3, 4, 5, 7]
      · simp only [l0_spec_l17Run, runPB, not_true_eq_false, not_false_eq_true, decide_true, decide_false, Bool.not_true, Bool.not_false, false_implies, true_implies, and_true, true_and, Bool.false_eq_true, Bool.true_eq_false, implies_true, Bool.not_not, Classical.not_not, go_sem, Int.reduceToNat, List.take_nil, Nat.zero_mul, Nat.reduceEqDiff, Nat.reduceAdd, Nat.reduceLT, Nat.reduceLeDiff, Nat.reduceMul, ↓reduceIte, reduceCtorEq]
        simp only at hk
        refine ⟨fun hlt => ?_, fun hge => ?_⟩
        · skip
          refine seq_join (fun _ : Unit => ⟨[(0, .sl 0 0 L.length c), (1, .i .i64 f), (2, .i .i64 n), (6, .p 1 0), (7, .p 2 0), (8, .sl 3 0 L.length c1), (9, .sl 4 0 L.length capK), (11, .i .i64 k), (12, .i .i64 (pausePick f n L k (simU L (pausePick f n L) k).done))], [.ro (encJob.row L), .rw ty_impl_Schedule [.sn, .sn] 2, .rw ty_impl_Schedule [.sl 6 0 k c3, .sl 5 0 L.length c2] 2, .rw ty_int (encInt.row (leftOf L (simU L (pausePick f n L) k).done)) c1, .rw ty_int (encInt.row (L.map Job.D)) capK, .rw ty_int (encInt.row (simU L (pausePick f n L) k).fin) c2, .rw ty_int (encInt.row (simU L (pausePick f n L) k).run) c3]⟩) (fun _ => True) ?_ fun _ _ => ?_
          · have hpp := @pause_pick L f n k (simU L (pausePick f n L) k).done
            simp only [not_true_eq_false, not_false_eq_true, decide_true, decide_false, Bool.not_true, Bool.not_false, false_implies, true_implies, and_true, true_and, Bool.false_eq_true, Bool.true_eq_false, implies_true, Bool.not_not, Classical.not_not, go_sem, Int.reduceToNat, List.take_nil, Nat.zero_mul, Nat.reduceEqDiff, Nat.reduceAdd, Nat.reduceLT, Nat.reduceLeDiff, Nat.reduceMul, ↓reduceIte, reduceCtorEq]
            refine ⟨fun g1 => ⟨by omega, fun g2 => ?_, fun g2 => ?_⟩, fun g1 => ?_⟩
            · refine spec_l3Best_ (L := L) (ks := L.map Job.D) (now := k) (by omega) (by omega) (leftOf_length _ _) (by simp) (Rd.own rfl) (Rd.len' rfl (leftOf_length _ _)) (Rd.len' rfl (by simp)) ?_
              rw [if_pos (by omega)] at hpp
              rw [keyPick_left, ← hpp]
              simp only [go_sem, Int.reduceToNat, List.take_nil, Nat.zero_mul, Nat.reduceEqDiff, Nat.reduceAdd, Nat.reduceLT, Nat.reduceLeDiff, Nat.reduceMul, ↓reduceIte, reduceCtorEq]
              exact kJ_intro () trivial (Wk.keep (by simp [look_cons]))
            · rw [if_neg (by omega)] at hpp
              rw [hpp]
              exact kJ_intro () trivial (Wk.keep (by simp [look_cons]))
            · refine spec_l3Best_ (L := L) (ks := L.map Job.D) (now := k) (by omega) (by omega) (leftOf_length _ _) (by simp) (Rd.own rfl) (Rd.len' rfl (leftOf_length _ _)) (Rd.len' rfl (by simp)) ?_
              rw [if_pos (by omega)] at hpp
              rw [keyPick_left, ← hpp]
              simp only [go_sem, Int.reduceToNat, List.take_nil, Nat.zero_mul, Nat.reduceEqDiff, Nat.reduceAdd, Nat.reduceLT, Nat.reduceLeDiff, Nat.reduceMul, ↓reduceIte, reduceCtorEq]
              exact kJ_intro () trivial (Wk.keep (by simp [look_cons]))
          have hlk := hlens k
          have hdk := hdone k
          have hpk := (pause_fair f n L).lt k (simU L (pausePick f n L) k).done
          have hneg := @simU_neg L (pausePick f n L) k
          have hpos := @simU_pos L (pausePick f n L) k
          have hlo := leftOf_length L (simU L (pausePick f n L) k).done
          change (simU L (pausePick f n L) k).done.length = L.length ∧ (simU L (pausePick f n L) k).fin.length = L.length ∧ (simU L (pausePick f n L) k).run.length = k at hlk
          change ∀ (i : Nat), i < L.length → 0 ≤ gI (simU L (pausePick f n L) k).done i ∧ gI (simU L (pausePick f n L) k).done i ≤ k at hdk
          generalize hsk : simU L (pausePick f n L) k = s at *
          obtain ⟨l1, l2, l3⟩ := hlk
          generalize hi : pausePick f n L k s.done = i at *
          simp only [lenI, not_true_eq_false, not_false_eq_true, decide_true, decide_false, Bool.not_true, Bool.not_false, false_implies, true_implies, and_true, true_and, Bool.false_eq_true, Bool.true_eq_false, implies_true, Bool.not_not, Classical.not_not, go_sem, Int.reduceToNat, List.take_nil, Nat.zero_mul, Nat.reduceEqDiff, Nat.reduceAdd, Nat.reduceLT, Nat.reduceLeDiff, Nat.reduceMul, ↓reduceIte, reduceCtorEq]
          refine ⟨by omega, fun d3 hd3 => ⟨fun hge => ?_, fun hneg0 => ?_⟩⟩
          · obtain ⟨n, rfl⟩ := Int.eq_ofNat_of_zero_le (show 0 ≤ i by omega)
            have hnL : n < L.length := by omega
            have hnl : n < (leftOf L s.done).length := by omega
            have hnf : n < s.fin.length := by omega
            obtain ⟨e1, e2, e3⟩ := hpos rfl hnL
            have gl : gI (leftOf L s.done) n = (leftOf L s.done)[n] := by simp [gI, List.getD_eq_getElem?_getD, hnl]
            rw [gl] at e1 e2
            have hv : (leftOf L s.done)[n] = (L.getD n default).E - gI s.done n := leftOf_get _ _ _ _
            have hEn := hE _ (List.getElem_mem hnL)
            have hLn : L.getD n default = L[n] := by simp [List.getD_eq_getElem?_getD, hnL]
            rw [hLn] at hv
            have hdn := hdk n hnL
            have hns : n < ((leftOf L s.done).set n ((leftOf L s.done)[n] - 1)).length := by rw [List.length_set]; exact hnl
            have gs : ((leftOf L s.done).set n ((leftOf L s.done)[n] - 1))[n] = (leftOf L s.done)[n] - 1 := List.getElem_set_self ..
            simp only [Int.toNat_natCast, rdI hnl, splI hnl, rdI hns, gs, splI hnf, List.length_set, lenI, hlo, l2, not_true_eq_false, not_false_eq_true, decide_true, decide_false, Bool.not_true, Bool.not_false, false_implies, true_implies, and_true, true_and, Bool.false_eq_true, Bool.true_eq_false, implies_true, Bool.not_not, Classical.not_not, go_sem, Int.reduceToNat, List.take_nil, Nat.zero_mul, Nat.reduceEqDiff, Nat.reduceAdd, Nat.reduceLT, Nat.reduceLeDiff, Nat.reduceMul, ↓reduceIte, reduceCtorEq]
            repeat refine ⟨by omega, ?_⟩
            refine ⟨fun he => ?_, fun he => ?_⟩
            · repeat refine ⟨by omega, ?_⟩
              refine ⟨some (d3, k + 1), ⟨by simp only; omega, by simp only; omega⟩, ?_⟩
              rw [if_pos he] at e2
              simp only [e1, e2, e3]
              have er : List.take k (encInt.row s.run) ++ [AV.i IntKind.i64 n] = encInt.row (s.run ++ [(n : Int)]) := by rw [List.take_of_length_le (by simp [lenI]; omega), appI]
              try rw [er]
              exact Wk.pickR [0, 1, 2, 3, 4, 5, 8]
            · repeat refine ⟨by omega, ?_⟩
              refine ⟨some (d3, k + 1), ⟨by simp only; omega, by simp only; omega⟩, ?_⟩
              rw [if_neg he] at e2
              simp only [e1, e2, e3]
              have er : List.take k (encInt.row s.run) ++ [AV.i IntKind.i64 n] = encInt.row (s.run ++ [(n : Int)]) := by rw [List.take_of_length_le (by simp [lenI]; omega), appI]
              try rw [er]
              exact Wk.pickR [0, 1, 2, 3, 4, 5, 8]
          · repeat refine ⟨by omega, ?_⟩
            refine ⟨some (d3, k + 1), ⟨by simp only; omega, by simp only; omega⟩, ?_⟩
            obtain ⟨e1, e2, e3⟩ := hneg (by omega)
            simp only [e1, e2, e3]
            have er : List.take k (encInt.row s.run) ++ [AV.i IntKind.i64 i] = encInt.row (s.run ++ [i]) := by rw [List.take_of_length_le (by simp [lenI]; omega), appI]
            try rw [er]
            exact Wk.pickR [0, 1, 2, 3, 4, 5, 8]
        · have ek : k = 120 := by omega
          subst ek
          have hf := (hlens 120).2.1
          change (simU L (pausePick f n L) 120).fin.length = L.length at hf
          refine Fin.pickR [0, 6, 5] (.agg [.sl 1 0 120 c3, .sl 2 0 L.length c2]) [.ro (encJob.row L), .rw ty_int (encInt.row (simU L (pausePick f n L) 120).run) c3, .rw ty_int (encInt.row (simU L (pausePick f n L) 120).fin) c2] ⟨_, rfl, .inr ⟨trivial, c3, c2, .inl ⟨?_, by rw [hf], rfl⟩⟩⟩
          intro h0; rw [h0] at hf; simp at hf; omega
theorem pause_none (f n : Int) : ∀ k, (simU [] (pausePick f n []) k).run = List.replicate k (-1) ∧ (simU [] (pausePick f n []) k).fin = []
  | 0 => ⟨rfl, rfl⟩
  | k + 1 => by
    obtain ⟨h1, h2⟩ := pause_none f n k
    have hp : pausePick f n [] k (simU [] (pausePick f n []) k).done = -1 := by unfold pausePick; split <;> rfl
    obtain ⟨_, e2, e3⟩ := simU_neg (L := []) (pick := pausePick f n []) (k := k) (by rw [hp]; decide)
    rw [e2, e3, h1, h2, hp]
    exact ⟨by rw [List.replicate_succ'], rfl⟩
end Go.Proofs.Ytdmoafmgeipenaa
