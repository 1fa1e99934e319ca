/- Contracts: RunResources of the reference. -/
import Derived.Test.YtnlciginmeebhaaS35
namespace Go.Proofs.Ytnlciginmeebhaa
open Go.Abs Go.Ds
set_option linter.unusedSimpArgs false
set_option linter.unusedVariables false
set_option maxRecDepth 20000
set_option maxHeartbeats 2000000

theorem Rd.owl {α : Type} {E : Enc α} {σ : List AB} {n len cap : Nat} {L : List α} (h : cellsOf σ n = some (E.row L)) (hl : L.length = len) : Rd E σ (.sl n 0 len cap) L := by subst hl; exact Rd.own h
theorem simU_set {L : List Job} {pick : Nat → List Int → Int} {k n : Nat} (h : pick k (simU L pick k).done = n) : (simU L pick (k + 1)).done = (simU L pick k).done.set n (gI (simU L pick k).done n + 1) ∧
    (simU L pick (k + 1)).fin = (if gI (simU L pick k).done n + 1 = (L.getD n default).E then (simU L pick k).fin.set n (k + 1) else (simU L pick k).fin) ∧ (simU L pick (k + 1)).run = (simU L pick k).run ++ [pick k (simU L pick k).done] := by
  have : simU L pick (k + 1) = tick L (fun _ now done => (pick now done, ())) k (simU L pick k) := rfl
  rw [this]
  simp [tick, h, show ¬ (n : Int) < 0 by omega]

/-- The reference's pick, on its way. -/
theorem ref_pick {S : List Task} {X : List Sec} {L : List Job} (hX : secsOk S X) (hL : jobsLegal S L) (k : Nat) :
    refWith S L k (simU L (srpPick S X L) k).done (sysN S X L (heldS X L (simU L (srpPick S X L) k).done) L.length) = srpPick S X L k (simU L (srpPick S X L) k).done := by
  have hE : ∀ j ∈ L, 1 ≤ j.E := fun j hj => (hL.2.1.mem hj).2.2.1
  have := ref_srp (S := S) (X := X) (L := L) (now := k) (reach (srp_fair S X L) hE k) (fun i hi => by
    have hTk := (hL.2.1.mem (List.getElem_mem hi)).1
    have hx := hX.2.2 L[i].T.toNat (by have := hX.2.1; omega)
    unfold secOk at hx
    have e : jX X L i = gX X ((L[i].T.toNat : Nat) : Int) := by unfold jX; rw [show L.getD i default = L[i] by simp [List.getD_eq_getElem?_getD, hi], Int.toNat_of_nonneg hTk.1]
    rw [e]; omega)
  exact this

def resA (S : List Task) (X : List Sec) (L : List Job) (c c' c3 : Nat) : Option (Nat × Nat) → St
  | none => ⟨[(0, .sl 0 0 S.length c), (1, .sl 1 0 X.length c'), (2, .sl 2 0 L.length c3), (6, .p 3 0), (7, .p 4 0), (8, .sl 5 0 L.length L.length), (9, .i .i64 0)], [.ro (encTask.row S), .ro (encSec.row X), .ro (encJob.row L), .rw ty_impl_Schedule [.sn, .sn] 2, .rw ty_impl_Schedule [.sn, .sn] 2, .rw ty_int (encInt.row (List.replicate L.length 0)) L.length]⟩
  | some (c2, k) => ⟨[(0, .sl 0 0 S.length c), (1, .sl 1 0 X.length c'), (2, .sl 2 0 L.length c3), (6, .p 3 0), (7, .p 4 0), (8, .sl 5 0 L.length L.length), (9, .i .i64 k)], [.ro (encTask.row S), .ro (encSec.row X), .ro (encJob.row L), .rw ty_impl_Schedule [.sn, .sn] 2, .rw ty_impl_Schedule [.sn, .sl 6 0 k c2] 2, .rw ty_int (encInt.row (List.replicate L.length 0)) L.length, .rw ty_int (encInt.row (List.replicate k (-1))) c2]⟩
def resB (S : List Task) (X : List Sec) (L : List Job) (c c' c3 c2 : Nat) : Option (Nat × Nat) → St
  | none => ⟨[(0, .sl 0 0 S.length c), (1, .sl 1 0 X.length c'), (2, .sl 2 0 L.length c3), (6, .p 3 0), (7, .p 4 0), (8, .sl 5 0 L.length L.length), (10, .i .i64 0)], [.ro (encTask.row S), .ro (encSec.row X), .ro (encJob.row L), .rw ty_impl_Schedule [.sn, .sn] 2, .rw ty_impl_Schedule [.sn, .sl 6 0 L.length c2] 2, .rw ty_int (encInt.row (simU L (srpPick S X L) 0).done) L.length, .rw ty_int (encInt.row (simU L (srpPick S X L) 0).fin) c2]⟩
  | some (c4, k) => ⟨[(0, .sl 0 0 S.length c), (1, .sl 1 0 X.length c'), (2, .sl 2 0 L.length c3), (6, .p 3 0), (7, .p 4 0), (8, .sl 5 0 L.length L.length), (10, .i .i64 k)], [.ro (encTask.row S), .ro (encSec.row X), .ro (encJob.row L), .rw ty_impl_Schedule [.sn, .sn] 2, .rw ty_impl_Schedule [.sl 7 0 k c4, .sl 6 0 L.length c2] 2, .rw ty_int (encInt.row (simU L (srpPick S X L) k).done) L.length, .rw ty_int (encInt.row (simU L (srpPick S X L) k).fin) c2, .rw ty_int (encInt.row (simU L (srpPick S X L) k).run) c4]⟩

theorem spec_RunResources_cons (S : List Task) (X : List Sec) (L : List Job) (hX : secsOk S X) (hL : jobsLegal S L) (hne : 0 < L.length) (c c' c3 : Nat) : CallWp Try.prog n_spec_RunResources [.sl 0 0 S.length c, .sl 1 0 X.length c', .sl 2 0 L.length c3] [.ro (encTask.row S), .ro (encSec.row X), .ro (encJob.row L)]
    (fun x σ' => ∃ τ, σ' = [.ro (encTask.row S), .ro (encSec.row X), .ro (encJob.row L)] ++ τ ∧ SchedQ 3 (resOk S X L) (srpRun S X L) (srpFin S X L) x τ) := by
  have h60 := hL.2.1.1
  have h5 := hX.1.1
  have hl := hX.2.1
  refine call_spec_RunResources (by simp) ?_
  simp only [c_spec_RunResources, go_sem, Int.reduceToNat, List.take_nil, Nat.zero_mul, Nat.reduceEqDiff, Nat.reduceAdd, Nat.reduceLT, Nat.reduceLeDiff, Nat.reduceMul, ↓reduceIte, reduceCtorEq]
  refine spec_SectionsValid_ (S := S) (X := X) (by omega) (by omega) (Rd.own rfl) (Rd.own rfl) ?_
  simp only [hX, not_true_eq_false, not_false_eq_true, decide_true, decide_false, Bool.not_true, Bool.not_false, false_implies, true_implies, and_true, true_and, Bool.false_eq_true, Bool.true_eq_false, implies_true, Bool.not_not, Classical.not_not, go_sem, Int.reduceToNat, List.take_nil, Nat.zero_mul, Nat.reduceEqDiff, Nat.reduceAdd, Nat.reduceLT, Nat.reduceLeDiff, Nat.reduceMul, ↓reduceIte, reduceCtorEq]
  refine spec_JobsLegal_ (S := S) (L := L) (by omega) (by omega) (Rd.own rfl) (Rd.own rfl) ?_
  simp only [hL, not_true_eq_false, not_false_eq_true, decide_true, decide_false, Bool.not_true, Bool.not_false, false_implies, true_implies, and_true, true_and, Bool.false_eq_true, Bool.true_eq_false, implies_true, Bool.not_not, Classical.not_not, go_sem, Int.reduceToNat, List.take_nil, Nat.zero_mul, Nat.reduceEqDiff, Nat.reduceAdd, Nat.reduceLT, Nat.reduceLeDiff, Nat.reduceMul, ↓reduceIte, reduceCtorEq]
  refine ⟨by omega, ?_⟩
  rw [show rep L.length [AV.i .i64 0] = encInt.row (List.replicate L.length 0) from encInt.rep 0 _]
  refine loop_intro (resA S X L c c' c3) (fun i => match i with | none => True | some (_, k) => 1 ≤ k ∧ k ≤ L.length) (fun i => match i with | none => L.length | some (_, k) => L.length - k) none trivial (Wk.pickR [0, 1, 2, 3, 4, 5]) ?_
  rintro (_ | ⟨c2, k⟩) hk
  · simp only [l1_spec_RunResources, resA, not_true_eq_false, not_false_eq_true, decide_true, decide_false, Bool.not_true, Bool.not_false, false_implies, true_implies, and_true, true_and, Bool.false_eq_true, Bool.true_eq_false, implies_true, Bool.not_not, Classical.not_not, go_sem, Int.reduceToNat, List.take_nil, Nat.zero_mul, Nat.reduceEqDiff, Nat.reduceAdd, Nat.reduceLT, Nat.reduceLeDiff, Nat.reduceMul, ↓reduceIte, reduceCtorEq]
    refine ⟨fun h => fun c2 h2 => ⟨by omega, some (c2, 1), ⟨by simp only; omega, by simp only; omega⟩, ?_⟩, fun h => absurd (show (0 : Int) < L.length by omega) h⟩
    have e2 : encInt.row (List.replicate 1 (-1)) = [AV.i .i64 (-1)] := rfl
    simp only [e2]
    exact Wk.pickR [0, 1, 2, 3, 4, 5, 7]
  · simp only at hk
    simp only [l1_spec_RunResources, resA, not_true_eq_false, not_false_eq_true, decide_true, decide_false, Bool.not_true, Bool.not_false, false_implies, true_implies, and_true, true_and, Bool.false_eq_true, Bool.true_eq_false, implies_true, Bool.not_not, Classical.not_not, go_sem, Int.reduceToNat, List.take_nil, Nat.zero_mul, Nat.reduceEqDiff, Nat.reduceAdd, Nat.reduceLT, Nat.reduceLeDiff, Nat.reduceMul, ↓reduceIte, reduceCtorEq]
    refine ⟨fun hlt => ?_, fun hlt => ?_⟩
    · simp only [lenI, List.length_replicate, not_true_eq_false, not_false_eq_true, decide_true, decide_false, Bool.not_true, Bool.not_false, false_implies, true_implies, and_true, true_and, Bool.false_eq_true, Bool.true_eq_false, implies_true, Bool.not_not, Classical.not_not, go_sem, Int.reduceToNat, List.take_nil, Nat.zero_mul, Nat.reduceEqDiff, Nat.reduceAdd, Nat.reduceLT, Nat.reduceLeDiff, Nat.reduceMul, ↓reduceIte, reduceCtorEq]
      refine ⟨by omega, fun d2 h2 => ⟨by omega, some (d2, k + 1), ⟨by simp only; omega, by simp only; omega⟩, ?_⟩⟩
      have e2 : List.take k (encInt.row (List.replicate k (-1))) ++ [AV.i IntKind.i64 (-1)] = encInt.row (List.replicate (k + 1) (-1)) := by
        rw [List.take_of_length_le (by simp [lenI]), appI, ← List.replicate_succ']
      rw [e2]
      exact Wk.pickR [0, 1, 2, 3, 4, 5, 8]
    · have ek : k = L.length := by omega
      subst ek
      refine loop_intro (resB S X L c c' c3 c2) (fun i => match i with | none => True | some (_, k) => 1 ≤ k ∧ k ≤ 120) (fun i => match i with | none => 120 | some (_, k) => 120 - k) none trivial (by
        have z1 : (simU L (srpPick S X L) 0).done = List.replicate L.length 0 := rfl
        have z2 : (simU L (srpPick S X L) 0).fin = List.replicate L.length (-1) := rfl
        simp only [resB, z1, z2]
        exact Wk.pickR [0, 1, 2, 3, 4, 5, 6]) ?_
      have hfair := srp_fair S X L
      have hE : ∀ j ∈ L, 1 ≤ j.E ∧ j.E ≤ 1000 := fun j hj => by
        have h2 := hL.2.1.mem hj
        have t1 := gT_ok hL.1 h2.1.1 h2.1.2
        unfold Task.ok at t1
        have h3 : costOf S j.T = (gT S j.T).C := rfl
        omega
      rintro (_ | ⟨c4, k⟩) hk
      · simp only [l0_spec_RunResources, resB, not_true_eq_false, not_false_eq_true, decide_true, decide_false, Bool.not_true, Bool.not_false, false_implies, true_implies, and_true, true_and, Bool.false_eq_true, Bool.true_eq_false, implies_true, Bool.not_not, Classical.not_not, go_sem, Int.reduceToNat, List.take_nil, Nat.zero_mul, Nat.reduceEqDiff, Nat.reduceAdd, Nat.reduceLT, Nat.reduceLeDiff, Nat.reduceMul, ↓reduceIte, reduceCtorEq]
        refine ⟨fun _ => ?_, fun h => absurd (by decide) h⟩
        have hlk := simU_lens (L := L) (pick := srpPick S X L) 0
        have hrp := ref_pick hX hL 0
        have hrc := reach hfair (fun j hj => (hE j hj).1) 0
        have hpk := hfair.lt 0 (simU L (srpPick S X L) 0).done
        have hneg := @simU_neg L (srpPick S X L) 0
        have hpos := @simU_set L (srpPick S X L) 0
        generalize simU L (srpPick S X L) 0 = s at *
        obtain ⟨l1, l2, l3⟩ := hlk
        refine spec_l6System_ (S := S) (X := X) (L := L) (done := s.done) hX hL l1 (Rd.own rfl) (Rd.own rfl) (Rd.own rfl) (Rd.owl rfl l1) ?_
        simp only [not_true_eq_false, not_false_eq_true, decide_true, decide_false, Bool.not_true, Bool.not_false, false_implies, true_implies, and_true, true_and, Bool.false_eq_true, Bool.true_eq_false, implies_true, Bool.not_not, Classical.not_not, go_sem, Int.reduceToNat, List.take_nil, Nat.zero_mul, Nat.reduceEqDiff, Nat.reduceAdd, Nat.reduceLT, Nat.reduceLeDiff, Nat.reduceMul, ↓reduceIte, reduceCtorEq]
        refine spec_l6Best_ (S := S) (L := L) (done := s.done) (now := 0) hL l1 (by omega) (Rd.own rfl) (Rd.own rfl) (Rd.owl rfl l1) ?_
        rw [hrp]
        generalize hi : srpPick S X L 0 s.done = i at *
        simp only [not_true_eq_false, not_false_eq_true, decide_true, decide_false, Bool.not_true, Bool.not_false, false_implies, true_implies, and_true, true_and, Bool.false_eq_true, Bool.true_eq_false, implies_true, Bool.not_not, Classical.not_not, go_sem, Int.reduceToNat, List.take_nil, Nat.zero_mul, Nat.reduceEqDiff, Nat.reduceAdd, Nat.reduceLT, Nat.reduceLeDiff, Nat.reduceMul, ↓reduceIte, reduceCtorEq]
        refine fun d4 h4 => ⟨fun hge => ?_, fun hlt => ?_⟩
        · obtain ⟨n, rfl⟩ := Int.eq_ofNat_of_zero_le (show 0 ≤ i by omega)
          have hnL : n < L.length := by omega
          have hnd : n < s.done.length := by omega
          have hnf : n < s.fin.length := by omega
          obtain ⟨e1, e2, e3⟩ := hpos rfl
          have gd := gI_nat hnd
          have hrn := hrc n hnL
          have gL : L.getD n default = L[n] := by simp [List.getD_eq_getElem?_getD, hnL]
          rw [gL] at hrn e2
          rw [gd] at hrn e1 e2
          have hEn := hE _ (List.getElem_mem hnL)
          have hns : n < (s.done.set n (s.done[n] + 1)).length := by rw [List.length_set]; exact hnd
          have gs : (s.done.set n (s.done[n] + 1))[n] = s.done[n] + 1 := List.getElem_set_self ..
          simp only [Int.toNat_natCast, rdI hnd, splI hnd, rdI hns, gs, splI hnf, rdJ3 hnL, List.length_set, lenI, lenJ, l1, l2, not_true_eq_false, not_false_eq_true, decide_true, decide_false, Bool.not_true, Bool.not_false, false_implies, true_implies, and_true, true_and, Bool.false_eq_true, Bool.true_eq_false, implies_true, Bool.not_not, Classical.not_not, go_sem, Int.reduceToNat, List.take_nil, Nat.zero_mul, Nat.reduceEqDiff, Nat.reduceAdd, Nat.reduceLT, Nat.reduceLeDiff, Nat.reduceMul, ↓reduceIte, reduceCtorEq]
          repeat refine ⟨by omega, ?_⟩
          refine ⟨fun he => ?_, fun he => ?_⟩
          · repeat refine ⟨by omega, ?_⟩
            refine ⟨some (d4, 0 + 1), ⟨by simp only; omega, by simp only; omega⟩, ?_⟩
            rw [if_pos he] at e2
            simp only [e1, e2, e3]
            have er : [AV.i IntKind.i64 n] = encInt.row (s.run ++ [(n : Int)]) := by rw [List.eq_nil_of_length_eq_zero l3]; rfl
            try rw [er]
            exact Wk.pickR [0, 1, 2, 3, 4, 5, 6, 8]
          · repeat refine ⟨by omega, ?_⟩
            refine ⟨some (d4, 0 + 1), ⟨by simp only; omega, by simp only; omega⟩, ?_⟩
            rw [if_neg he] at e2
            simp only [e1, e2, e3]
            have er : [AV.i IntKind.i64 n] = encInt.row (s.run ++ [(n : Int)]) := by rw [List.eq_nil_of_length_eq_zero l3]; rfl
            try rw [er]
            exact Wk.pickR [0, 1, 2, 3, 4, 5, 6, 8]
        · obtain ⟨e1, e2, e3⟩ := hneg (by omega)
          repeat refine ⟨by omega, ?_⟩
          refine ⟨some (d4, 0 + 1), ⟨by simp only; omega, by simp only; omega⟩, ?_⟩
          simp only [e1, e2, e3]
          have er : [AV.i IntKind.i64 i] = encInt.row (s.run ++ [i]) := by rw [List.eq_nil_of_length_eq_zero l3]; rfl
          try rw [er]
          exact Wk.pickR [0, 1, 2, 3, 4, 5, 6, 8]
      · simp only at hk
        simp only [l0_spec_RunResources, resB, not_true_eq_false, not_false_eq_true, decide_true, decide_false, Bool.not_true, Bool.not_false, false_implies, true_implies, and_true, true_and, Bool.false_eq_true, Bool.true_eq_false, implies_true, Bool.not_not, Classical.not_not, go_sem, Int.reduceToNat, List.take_nil, Nat.zero_mul, Nat.reduceEqDiff, Nat.reduceAdd, Nat.reduceLT, Nat.reduceLeDiff, Nat.reduceMul, ↓reduceIte, reduceCtorEq]
        refine ⟨fun hltk => ?_, fun hgek => ?_⟩
        · skip
          have hlk := simU_lens (L := L) (pick := srpPick S X L) k
          have hrp := ref_pick hX hL k
          have hrc := reach hfair (fun j hj => (hE j hj).1) k
          have hpk := hfair.lt k (simU L (srpPick S X L) k).done
          have hneg := @simU_neg L (srpPick S X L) k
          have hpos := @simU_set L (srpPick S X L) k
          generalize simU L (srpPick S X L) k = s at *
          obtain ⟨l1, l2, l3⟩ := hlk
          refine spec_l6System_ (S := S) (X := X) (L := L) (done := s.done) hX hL l1 (Rd.own rfl) (Rd.own rfl) (Rd.own rfl) (Rd.owl rfl l1) ?_
          simp only [not_true_eq_false, not_false_eq_true, decide_true, decide_false, Bool.not_true, Bool.not_false, false_implies, true_implies, and_true, true_and, Bool.false_eq_true, Bool.true_eq_false, implies_true, Bool.not_not, Classical.not_not, go_sem, Int.reduceToNat, List.take_nil, Nat.zero_mul, Nat.reduceEqDiff, Nat.reduceAdd, Nat.reduceLT, Nat.reduceLeDiff, Nat.reduceMul, ↓reduceIte, reduceCtorEq]
          refine spec_l6Best_ (S := S) (L := L) (done := s.done) (now := k) hL l1 (by omega) (Rd.own rfl) (Rd.own rfl) (Rd.owl rfl l1) ?_
          rw [hrp]
          generalize hi : srpPick S X L k s.done = i at *
          simp only [not_true_eq_false, not_false_eq_true, decide_true, decide_false, Bool.not_true, Bool.not_false, false_implies, true_implies, and_true, true_and, Bool.false_eq_true, Bool.true_eq_false, implies_true, Bool.not_not, Classical.not_not, go_sem, Int.reduceToNat, List.take_nil, Nat.zero_mul, Nat.reduceEqDiff, Nat.reduceAdd, Nat.reduceLT, Nat.reduceLeDiff, Nat.reduceMul, ↓reduceIte, reduceCtorEq]
          simp only [lenI, l3, not_true_eq_false, not_false_eq_true, decide_true, decide_false, Bool.not_true, Bool.not_false, false_implies, true_implies, and_true, true_and, Bool.false_eq_true, Bool.true_eq_false, implies_true, Bool.not_not, Classical.not_not, go_sem, Int.reduceToNat, List.take_nil, Nat.zero_mul, Nat.reduceEqDiff, Nat.reduceAdd, Nat.reduceLT, Nat.reduceLeDiff, Nat.reduceMul, ↓reduceIte, reduceCtorEq]
          refine ⟨by omega, fun d4 h4 => ⟨fun hge => ?_, fun hlt => ?_⟩⟩
          · obtain ⟨n, rfl⟩ := Int.eq_ofNat_of_zero_le (show 0 ≤ i by omega)
            have hnL : n < L.length := by omega
            have hnd : n < s.done.length := by omega
            have hnf : n < s.fin.length := by omega
            obtain ⟨e1, e2, e3⟩ := hpos rfl
            have gd := gI_nat hnd
            have hrn := hrc n hnL
            have gL : L.getD n default = L[n] := by simp [List.getD_eq_getElem?_getD, hnL]
            rw [gL] at hrn e2
            rw [gd] at hrn e1 e2
            have hEn := hE _ (List.getElem_mem hnL)
            have hns : n < (s.done.set n (s.done[n] + 1)).length := by rw [List.length_set]; exact hnd
            have gs : (s.done.set n (s.done[n] + 1))[n] = s.done[n] + 1 := List.getElem_set_self ..
            simp only [Int.toNat_natCast, rdI hnd, splI hnd, rdI hns, gs, splI hnf, rdJ3 hnL, List.length_set, lenI, lenJ, l1, l2, not_true_eq_false, not_false_eq_true, decide_true, decide_false, Bool.not_true, Bool.not_false, false_implies, true_implies, and_true, true_and, Bool.false_eq_true, Bool.true_eq_false, implies_true, Bool.not_not, Classical.not_not, go_sem, Int.reduceToNat, List.take_nil, Nat.zero_mul, Nat.reduceEqDiff, Nat.reduceAdd, Nat.reduceLT, Nat.reduceLeDiff, Nat.reduceMul, ↓reduceIte, reduceCtorEq]
            repeat refine ⟨by omega, ?_⟩
            refine ⟨fun he => ?_, fun he => ?_⟩
            · repeat refine ⟨by omega, ?_⟩
              refine ⟨some (d4, k + 1), ⟨by simp only; omega, by simp only; omega⟩, ?_⟩
              rw [if_pos he] at e2
              simp only [e1, e2, e3]
              have er : List.take k (encInt.row s.run) ++ [AV.i IntKind.i64 n] = encInt.row (s.run ++ [(n : Int)]) := by rw [List.take_of_length_le (by rw [lenI]; omega), appI]
              try rw [er]
              exact Wk.pickR [0, 1, 2, 3, 4, 5, 6, 9]
            · repeat refine ⟨by omega, ?_⟩
              refine ⟨some (d4, k + 1), ⟨by simp only; omega, by simp only; omega⟩, ?_⟩
              rw [if_neg he] at e2
              simp only [e1, e2, e3]
              have er : List.take k (encInt.row s.run) ++ [AV.i IntKind.i64 n] = encInt.row (s.run ++ [(n : Int)]) := by rw [List.take_of_length_le (by rw [lenI]; omega), appI]
              try rw [er]
              exact Wk.pickR [0, 1, 2, 3, 4, 5, 6, 9]
          · obtain ⟨e1, e2, e3⟩ := hneg (by omega)
            repeat refine ⟨by omega, ?_⟩
            refine ⟨some (d4, k + 1), ⟨by simp only; omega, by simp only; omega⟩, ?_⟩
            simp only [e1, e2, e3]
            have er : List.take k (encInt.row s.run) ++ [AV.i IntKind.i64 i] = encInt.row (s.run ++ [i]) := by rw [List.take_of_length_le (by rw [lenI]; omega), appI]
            try rw [er]
            exact Wk.pickR [0, 1, 2, 3, 4, 5, 6, 9]
        · have ek : k = 120 := by omega
          subst ek
          have hl1 := simU_lens (L := L) (pick := srpPick S X L) 120
          have hne' : srpFin S X L ≠ [] := fun h => by
            have : (srpFin S X L).length = L.length := hl1.2.1
            rw [h] at this; simp at this; omega
          have hfl : (srpFin S X L).length = L.length := hl1.2.1
          rw [← hfl]
          exact Fin.pickR [0, 1, 2, 7, 6] (.agg [.sl 3 0 120 c4, .sl 4 0 (srpFin S X L).length c2]) [.ro (encTask.row S), .ro (encSec.row X), .ro (encJob.row L), .rw ty_int (encInt.row (simU L (srpPick S X L) 120).run) c4, .rw ty_int (encInt.row (simU L (srpPick S X L) 120).fin) c2] ⟨_, rfl, .inr ⟨⟨hX, hL⟩, c4, c2, .inl ⟨hne', rfl, rfl⟩⟩⟩
def resN (S : List Task) (X : List Sec) (L : List Job) (c c' c3 : Nat) : Option (Nat × Nat) → St
  | none => ⟨[(0, .sl 0 0 S.length c), (1, .sl 1 0 X.length c'), (2, .sl 2 0 L.length c3), (6, .p 3 0), (7, .p 4 0), (8, .sl 5 0 L.length L.length), (10, .i .i64 0)], [.ro (encTask.row S), .ro (encSec.row X), .ro (encJob.row L), .rw ty_impl_Schedule [.sn, .sn] 2, .rw ty_impl_Schedule [.sn, .sn] 2, .rw ty_int (encInt.row (simU L (srpPick S X L) 0).done) L.length]⟩
  | some (c4, k) => ⟨[(0, .sl 0 0 S.length c), (1, .sl 1 0 X.length c'), (2, .sl 2 0 L.length c3), (6, .p 3 0), (7, .p 4 0), (8, .sl 5 0 L.length L.length), (10, .i .i64 k)], [.ro (encTask.row S), .ro (encSec.row X), .ro (encJob.row L), .rw ty_impl_Schedule [.sn, .sn] 2, .rw ty_impl_Schedule [.sl 6 0 k c4, .sn] 2, .rw ty_int (encInt.row (simU L (srpPick S X L) k).done) L.length, .rw ty_int (encInt.row (simU L (srpPick S X L) k).run) c4]⟩

theorem spec_RunResources_nil (S : List Task) (X : List Sec) (L : List Job) (hX : secsOk S X) (hL : jobsLegal S L) (hne : L.length = 0) (c c' c3 : Nat) : CallWp Try.prog n_spec_RunResources [.sl 0 0 S.length c, .sl 1 0 X.length c', .sl 2 0 L.length c3] [.ro (encTask.row S), .ro (encSec.row X), .ro (encJob.row L)]
    (fun x σ' => ∃ τ, σ' = [.ro (encTask.row S), .ro (encSec.row X), .ro (encJob.row L)] ++ τ ∧ SchedQ 3 (resOk S X L) (srpRun S X L) (srpFin S X L) x τ) := by
  have h60 := hL.2.1.1
  have h5 := hX.1.1
  have hl := hX.2.1
  refine call_spec_RunResources (by simp) ?_
  simp only [c_spec_RunResources, go_sem, Int.reduceToNat, List.take_nil, Nat.zero_mul, Nat.reduceEqDiff, Nat.reduceAdd, Nat.reduceLT, Nat.reduceLeDiff, Nat.reduceMul, ↓reduceIte, reduceCtorEq]
  refine spec_SectionsValid_ (S := S) (X := X) (by omega) (by omega) (Rd.own rfl) (Rd.own rfl) ?_
  simp only [hX, not_true_eq_false, not_false_eq_true, decide_true, decide_false, Bool.not_true, Bool.not_false, false_implies, true_implies, and_true, true_and, Bool.false_eq_true, Bool.true_eq_false, implies_true, Bool.not_not, Classical.not_not, go_sem, Int.reduceToNat, List.take_nil, Nat.zero_mul, Nat.reduceEqDiff, Nat.reduceAdd, Nat.reduceLT, Nat.reduceLeDiff, Nat.reduceMul, ↓reduceIte, reduceCtorEq]
  refine spec_JobsLegal_ (S := S) (L := L) (by omega) (by omega) (Rd.own rfl) (Rd.own rfl) ?_
  simp only [hL, not_true_eq_false, not_false_eq_true, decide_true, decide_false, Bool.not_true, Bool.not_false, false_implies, true_implies, and_true, true_and, Bool.false_eq_true, Bool.true_eq_false, implies_true, Bool.not_not, Classical.not_not, go_sem, Int.reduceToNat, List.take_nil, Nat.zero_mul, Nat.reduceEqDiff, Nat.reduceAdd, Nat.reduceLT, Nat.reduceLeDiff, Nat.reduceMul, ↓reduceIte, reduceCtorEq]
  refine ⟨by omega, ?_⟩
  rw [show rep L.length [AV.i .i64 0] = encInt.row (List.replicate L.length 0) from encInt.rep 0 _]
  refine loop_intro (fun _ : Unit => resA S X L c c' c3 none) (fun _ => True) (fun _ => 0) () trivial (Wk.pickR [0, 1, 2, 3, 4, 5]) fun _ _ => ?_
  simp only [l1_spec_RunResources, resA, not_true_eq_false, not_false_eq_true, decide_true, decide_false, Bool.not_true, Bool.not_false, false_implies, true_implies, and_true, true_and, Bool.false_eq_true, Bool.true_eq_false, implies_true, Bool.not_not, Classical.not_not, go_sem, Int.reduceToNat, List.take_nil, Nat.zero_mul, Nat.reduceEqDiff, Nat.reduceAdd, Nat.reduceLT, Nat.reduceLeDiff, Nat.reduceMul, ↓reduceIte, reduceCtorEq]
  refine ⟨fun h => absurd h (by omega), fun _ => ?_⟩
  refine loop_intro (resN S X L c c' c3) (fun i => match i with | none => True | some (_, k) => 1 ≤ k ∧ k ≤ 120) (fun i => match i with | none => 120 | some (_, k) => 120 - k) none trivial (by
    have z1 : (simU L (srpPick S X L) 0).done = List.replicate L.length 0 := rfl
    simp only [resN, z1]
    exact Wk.pickR [0, 1, 2, 3, 4, 5]) ?_
  have hfair := srp_fair S X L
  rintro (_ | ⟨c4, k⟩) hk
  · simp only [l0_spec_RunResources, resN, not_true_eq_false, not_false_eq_true, decide_true, decide_false, Bool.not_true, Bool.not_false, false_implies, true_implies, and_true, true_and, Bool.false_eq_true, Bool.true_eq_false, implies_true, Bool.not_not, Classical.not_not, go_sem, Int.reduceToNat, List.take_nil, Nat.zero_mul, Nat.reduceEqDiff, Nat.reduceAdd, Nat.reduceLT, Nat.reduceLeDiff, Nat.reduceMul, ↓reduceIte, reduceCtorEq]
    refine ⟨fun _ => ?_, fun h => absurd (by decide) h⟩
    have hlk := simU_lens (L := L) (pick := srpPick S X L) 0
    have hrp := ref_pick hX hL 0
    have hpk := hfair.lt 0 (simU L (srpPick S X L) 0).done
    have hneg := @simU_neg L (srpPick S X L) 0
    generalize simU L (srpPick S X L) 0 = s at *
    obtain ⟨l1, l2, l3⟩ := hlk
    refine spec_l6System_ (S := S) (X := X) (L := L) (done := s.done) hX hL l1 (Rd.own rfl) (Rd.own rfl) (Rd.own rfl) (Rd.owl rfl l1) ?_
    simp only [not_true_eq_false, not_false_eq_true, decide_true, decide_false, Bool.not_true, Bool.not_false, false_implies, true_implies, and_true, true_and, Bool.false_eq_true, Bool.true_eq_false, implies_true, Bool.not_not, Classical.not_not, go_sem, Int.reduceToNat, List.take_nil, Nat.zero_mul, Nat.reduceEqDiff, Nat.reduceAdd, Nat.reduceLT, Nat.reduceLeDiff, Nat.reduceMul, ↓reduceIte, reduceCtorEq]
    refine spec_l6Best_ (S := S) (L := L) (done := s.done) (now := 0) hL l1 (by omega) (Rd.own rfl) (Rd.own rfl) (Rd.owl rfl l1) ?_
    rw [hrp]
    generalize hi : srpPick S X L 0 s.done = i at *
    simp only [not_true_eq_false, not_false_eq_true, decide_true, decide_false, Bool.not_true, Bool.not_false, false_implies, true_implies, and_true, true_and, Bool.false_eq_true, Bool.true_eq_false, implies_true, Bool.not_not, Classical.not_not, go_sem, Int.reduceToNat, List.take_nil, Nat.zero_mul, Nat.reduceEqDiff, Nat.reduceAdd, Nat.reduceLT, Nat.reduceLeDiff, Nat.reduceMul, ↓reduceIte, reduceCtorEq]
    refine fun d4 h4 => ⟨fun hge => absurd hge (by omega), fun hlt => ?_⟩
    obtain ⟨e1, e2, e3⟩ := hneg (by omega)
    repeat refine ⟨by omega, ?_⟩
    refine ⟨some (d4, 0 + 1), ⟨by simp only; omega, by simp only; omega⟩, ?_⟩
    simp only [e1, e2, e3]
    have er : [AV.i IntKind.i64 i] = encInt.row (s.run ++ [i]) := by rw [List.eq_nil_of_length_eq_zero l3]; rfl
    try rw [er]
    exact Wk.pickR [0, 1, 2, 3, 4, 5, 7]
  · simp only at hk
    simp only [l0_spec_RunResources, resN, not_true_eq_false, not_false_eq_true, decide_true, decide_false, Bool.not_true, Bool.not_false, false_implies, true_implies, and_true, true_and, Bool.false_eq_true, Bool.true_eq_false, implies_true, Bool.not_not, Classical.not_not, go_sem, Int.reduceToNat, List.take_nil, Nat.zero_mul, Nat.reduceEqDiff, Nat.reduceAdd, Nat.reduceLT, Nat.reduceLeDiff, Nat.reduceMul, ↓reduceIte, reduceCtorEq]
    refine ⟨fun hltk => ?_, fun hgek => ?_⟩
    · have hlk := simU_lens (L := L) (pick := srpPick S X L) k
      have hrp := ref_pick hX hL k
      have hpk := hfair.lt k (simU L (srpPick S X L) k).done
      have hneg := @simU_neg L (srpPick S X L) k
      generalize simU L (srpPick S X L) k = s at *
      obtain ⟨l1, l2, l3⟩ := hlk
      refine spec_l6System_ (S := S) (X := X) (L := L) (done := s.done) hX hL l1 (Rd.own rfl) (Rd.own rfl) (Rd.own rfl) (Rd.owl rfl l1) ?_
      simp only [not_true_eq_false, not_false_eq_true, decide_true, decide_false, Bool.not_true, Bool.not_false, false_implies, true_implies, and_true, true_and, Bool.false_eq_true, Bool.true_eq_false, implies_true, Bool.not_not, Classical.not_not, go_sem, Int.reduceToNat, List.take_nil, Nat.zero_mul, Nat.reduceEqDiff, Nat.reduceAdd, Nat.reduceLT, Nat.reduceLeDiff, Nat.reduceMul, ↓reduceIte, reduceCtorEq]
      refine spec_l6Best_ (S := S) (L := L) (done := s.done) (now := k) hL l1 (by omega) (Rd.own rfl) (Rd.own rfl) (Rd.owl rfl l1) ?_
      rw [hrp]
      generalize hi : srpPick S X L k s.done = i at *
      simp only [lenI, l3, not_true_eq_false, not_false_eq_true, decide_true, decide_false, Bool.not_true, Bool.not_false, false_implies, true_implies, and_true, true_and, Bool.false_eq_true, Bool.true_eq_false, implies_true, Bool.not_not, Classical.not_not, go_sem, Int.reduceToNat, List.take_nil, Nat.zero_mul, Nat.reduceEqDiff, Nat.reduceAdd, Nat.reduceLT, Nat.reduceLeDiff, Nat.reduceMul, ↓reduceIte, reduceCtorEq]
      refine ⟨by omega, fun d4 h4 => ⟨fun hge => absurd hge (by omega), fun hlt => ?_⟩⟩
      obtain ⟨e1, e2, e3⟩ := hneg (by omega)
      repeat refine ⟨by omega, ?_⟩
      refine ⟨some (d4, k + 1), ⟨by simp only; omega, by simp only; omega⟩, ?_⟩
      simp only [e1, e2, e3]
      have er : List.take k (encInt.row s.run) ++ [AV.i IntKind.i64 i] = encInt.row (s.run ++ [i]) := by rw [List.take_of_length_le (by rw [lenI]; omega), appI]
      try rw [er]
      exact Wk.pickR [0, 1, 2, 3, 4, 5, 8]
    · have ek : k = 120 := by omega
      subst ek
      have hfl : srpFin S X L = [] := List.eq_nil_of_length_eq_zero (by have : (srpFin S X L).length = L.length := (simU_lens (L := L) (pick := srpPick S X L) 120).2.1; omega)
      exact Fin.pickR [0, 1, 2, 6] (.agg [.sl 3 0 120 c4, .sn]) [.ro (encTask.row S), .ro (encSec.row X), .ro (encJob.row L), .rw ty_int (encInt.row (simU L (srpPick S X L) 120).run) c4] ⟨_, rfl, .inr ⟨⟨hX, hL⟩, c4, 0, .inr ⟨hfl, rfl, rfl⟩⟩⟩

theorem spec_RunResources0 (S : List Task) (X : List Sec) (L : List Job) (hs : S.length ≤ 1048576) (hx : X.length ≤ 1048576) (hl : L.length ≤ 1048576) (c c' c3 : Nat) : CallWp Try.prog n_spec_RunResources [.sl 0 0 S.length c, .sl 1 0 X.length c', .sl 2 0 L.length c3] [.ro (encTask.row S), .ro (encSec.row X), .ro (encJob.row L)]
    (fun x σ' => ∃ τ, σ' = [.ro (encTask.row S), .ro (encSec.row X), .ro (encJob.row L)] ++ τ ∧ SchedQ 3 (resOk S X L) (srpRun S X L) (srpFin S X L) x τ) := by
  by_cases hok : resOk S X L
  · by_cases h0 : 0 < L.length
    · exact spec_RunResources_cons S X L hok.1 hok.2 h0 c c' c3
    · exact spec_RunResources_nil S X L hok.1 hok.2 (by omega) c c' c3
  refine call_spec_RunResources (by simp) ?_
  simp only [c_spec_RunResources, go_sem, Int.reduceToNat, List.take_nil, Nat.zero_mul, Nat.reduceEqDiff, Nat.reduceAdd, Nat.reduceLT, Nat.reduceLeDiff, Nat.reduceMul, ↓reduceIte, reduceCtorEq]
  refine spec_SectionsValid_ (S := S) (X := X) (by omega) (by omega) (Rd.own rfl) (Rd.own rfl) ?_
  simp only [not_true_eq_false, not_false_eq_true, decide_true, decide_false, Bool.not_true, Bool.not_false, false_implies, true_implies, and_true, true_and, Bool.false_eq_true, Bool.true_eq_false, implies_true, Bool.not_not, Classical.not_not, go_sem, Int.reduceToNat, List.take_nil, Nat.zero_mul, Nat.reduceEqDiff, Nat.reduceAdd, Nat.reduceLT, Nat.reduceLeDiff, Nat.reduceMul, ↓reduceIte, reduceCtorEq]
  have no : Fin 3 [.ro (encTask.row S), .ro (encSec.row X), .ro (encJob.row L), .rw ty_impl_Schedule [.sn, .sn] 2] (.agg [.sn, .sn]) (fun x σ' => ∃ τ, σ' = .ro (encTask.row S) :: .ro (encSec.row X) :: .ro (encJob.row L) :: τ ∧ SchedQ 3 (resOk S X L) (srpRun S X L) (srpFin S X L) x τ) :=
    Fin.pick [0, 1, 2] (.agg [.sn, .sn]) _ ⟨[], rfl, .inl ⟨hok, rfl, rfl⟩⟩
  refine ⟨fun hX => spec_JobsLegal_ (S := S) (L := L) (by omega) (by omega) (Rd.own rfl) (Rd.own rfl) ?_, fun hX => no⟩
  have hL : ¬ jobsLegal S L := fun h => hok ⟨hX, h⟩
  simp only [hL, not_true_eq_false, not_false_eq_true, decide_true, decide_false, Bool.not_true, Bool.not_false, false_implies, true_implies, and_true, true_and, Bool.false_eq_true, Bool.true_eq_false, implies_true, Bool.not_not, Classical.not_not, go_sem, Int.reduceToNat, List.take_nil, Nat.zero_mul, Nat.reduceEqDiff, Nat.reduceAdd, Nat.reduceLT, Nat.reduceLeDiff, Nat.reduceMul, ↓reduceIte, reduceCtorEq]
  exact no
theorem spec_RunResources_ {S : List Task} {X : List Sec} {L : List Job} (hs : S.length ≤ 1048576) (hx : X.length ≤ 1048576) (hl : L.length ≤ 1048576) {v w u : AV} {σ : List AB} (h : Rd encTask σ v S) (h2 : Rd encSec σ w X) (h' : Rd encJob σ u L) {K : AV → List AB → Prop} (hn : ¬ resOk S X L → K (.agg [.sn, .sn]) σ)
    (hy : resOk S X L → ∀ x τ, SchedQ σ.length True (srpRun S X L) (srpFin S X L) x τ → K x (σ ++ τ)) : CallWp Try.prog n_spec_RunResources [v, w, u] σ K := by
  refine call_news _ (rds_cons h.r (rds_cons h2.r (rds1 h'.r))) (fun c => [.sl 0 0 S.length (c 0), .sl 1 0 X.length (c 1), .sl 2 0 L.length (c 2)]) (SchedQ 3 (resOk S X L) (srpRun S X L) (srpFin S X L)) (fun c => spec_RunResources0 S X L hs hx hl (c 0) (c 1) (c 2)) (fun _ _ h => h.fr) (fun ν c h => ⟨h.1, h.2.1, h.2.2.1, trivial⟩) (fun _ => rfl) ?_
  rintro x τ (⟨hno, rfl, rfl⟩ | ⟨hyes, c1, c2, ⟨h, rfl, rfl⟩ | ⟨h, rfl, rfl⟩⟩)
  · rw [List.append_nil]; exact hn hno
  · exact hy hyes _ _ (.inr ⟨trivial, c1, c2, .inl ⟨h, rfl, rfl⟩⟩)
  · exact hy hyes _ _ (.inr ⟨trivial, c1, c2, .inr ⟨h, rfl, rfl⟩⟩)
end Go.Proofs.Ytnlciginmeebhaa
