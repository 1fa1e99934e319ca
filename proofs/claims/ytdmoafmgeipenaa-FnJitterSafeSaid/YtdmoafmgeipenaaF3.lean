/- Contracts: jobs drawn, some late. -/
import Derived.Test.YtdmoafmgeipenaaF2
namespace Go.Proofs.Ytdmoafmgeipenaa
open Go.Abs Go.Ds
set_option linter.unusedSimpArgs false
set_option linter.unusedVariables false
set_option maxRecDepth 20000
set_option maxHeartbeats 1000000

theorem row_drop (U : List Job) {m : Nat} (hm : m ≤ U.length) : win (encJob.row U) (m * 4) ((U.length - m) * 4) = encJob.row (U.drop m) := by
  have h : encJob.row U = encJob.row (U.take m) ++ encJob.row (U.drop m) := by rw [← encJob.row_append, List.take_append_drop]
  have hl : (encJob.row (U.take m)).length = m * 4 := by rw [lenJ, List.length_take]; congr 1; omega
  simp only [win]
  rw [h, ← hl, List.drop_left, List.take_of_length_le (by rw [lenJ, List.length_drop]; omega)]

def wildK (k : Nat) (j : Job) : Prop := (-1 ≤ j.T ∧ j.T ≤ 20) ∧ (-1 ≤ j.R ∧ j.R ≤ 200 + 21 * k) ∧ (-1 ≤ j.D ∧ j.D ≤ 300) ∧ (0 ≤ j.E ∧ j.E ≤ 20)
theorem wildK.up {k m : Nat} {j : Job} (h : wildK k j) (hm : k ≤ m) : wildK m j := by unfold wildK at h ⊢; omega

def LateP (s : Nat) (p : Int) (x : AV) (p' : Int) (τ : List AB) : Prop := (p ≤ p' ∧ p' ≤ p + 4000) ∧ ∃ (L : List Job) (cap : Nat), x = .sl s 0 L.length cap ∧ τ = [.rw ty_impl_Job (encJob.row L) (cap * 4)] ∧ L.length ≤ 62 ∧ ∀ j ∈ L, wildK 62 j

theorem spec_l20Late0 (B : List Nat) (p : Int) (hC : Code B) (hp : 0 ≤ p ∧ p ≤ 3500000000000) (S : List Task) (hS : setOk S) (J : List Int) (hJ : J.length ≤ 9 ∧ ∀ j ∈ J, -1 ≤ j ∧ j ≤ 20) (n : Int) (hn : n ≤ 1000) (c c2 c4 : Nat) :
    CallWp Try.prog n_spec_l20Late [.p 1 0, .sl 2 0 S.length c2, .sl 3 0 J.length c4, .i .i64 n] (rdr B c p ++ [.ro (encTask.row S), .ro (encInt.row J)]) (fun x σ' => ∃ p' τ, σ' = (rdr B c p' ++ [.ro (encTask.row S), .ro (encInt.row J)]) ++ τ ∧ LateP 4 p x p' τ) := by
  have h5 := hS.1
  refine call_spec_l20Late (by simp) ?_
  simp only [c_spec_l20Late, go_sem, Int.reduceToNat, List.take_nil, Nat.zero_mul, Nat.reduceEqDiff, Nat.reduceAdd, Nat.reduceLT, Nat.reduceLeDiff, Nat.reduceMul, ↓reduceIte, reduceCtorEq]
  refine spec_l20Jobs_ (Rdr.of (τ := [_, _])) hC (by omega) hS (Sl.own rfl (by decide)) _ (by omega) fun L cap p1 h11 h12 hL62 hLw => ?_
  simp only [go_sem, Int.reduceToNat, List.take_nil, Nat.zero_mul, Nat.reduceEqDiff, Nat.reduceAdd, Nat.reduceLT, Nat.reduceLeDiff, Nat.reduceMul, ↓reduceIte, reduceCtorEq]
  refine loop_intro (fun i : List Job × Int × Nat => ⟨[(0, .p 1 0), (1, .sl 2 0 S.length c2), (2, .sl 3 0 J.length c4), (9, .sl 4 0 L.length cap), (10, .i .i64 i.2.2)], rdr B c i.2.1 ++ [.ro (encTask.row S), .ro (encInt.row J), .rw ty_impl_Job (encJob.row i.1) (cap * 4)]⟩)
    (fun i => i.1.length = L.length ∧ (∀ j ∈ i.1, wildK i.2.2 j) ∧ (p1 ≤ i.2.1 ∧ i.2.1 ≤ p1 + i.2.2) ∧ i.2.2 ≤ L.length) (fun i => L.length - i.2.2) (L, p1, 0) ⟨rfl, fun j hj => by have := hLw j hj; unfold wildJ at this; unfold wildK; simp only; omega, by simp only; omega, Nat.zero_le _⟩ (Wk.pick [0, 1, 2, 3, 4]) ?_
  rintro ⟨M, q, k⟩ ⟨hM, hMw, hq, hk⟩
  simp only at hM hMw hq hk
  simp only [l2_spec_l20Late, not_true_eq_false, not_false_eq_true, decide_true, decide_false, Bool.not_true, Bool.not_false, false_implies, true_implies, and_true, true_and, Bool.false_eq_true, Bool.true_eq_false, implies_true, Bool.not_not, Classical.not_not, go_sem, Int.reduceToNat, List.take_nil, Nat.zero_mul, Nat.reduceEqDiff, Nat.reduceAdd, Nat.reduceLT, Nat.reduceLeDiff, Nat.reduceMul, ↓reduceIte, reduceCtorEq]
  refine ⟨fun hl => ?_, fun hl => ?_⟩
  · have hkM : k < M.length := by omega
    have hw := hMw _ (List.getElem_mem hkM)
    unfold wildK at hw
    simp only [rdJ0 hkM, rdJ1 hkM, lenJ, hM, not_true_eq_false, not_false_eq_true, decide_true, decide_false, Bool.not_true, Bool.not_false, false_implies, true_implies, and_true, true_and, Bool.false_eq_true, Bool.true_eq_false, implies_true, Bool.not_not, Classical.not_not, go_sem, Int.reduceToNat, List.take_nil, Nat.zero_mul, Nat.reduceEqDiff, Nat.reduceAdd, Nat.reduceLT, Nat.reduceLeDiff, Nat.reduceMul, ↓reduceIte, reduceCtorEq]
    have same : ∀ T : List (Nat × AV), (∀ p ∈ ([(0, .p 1 0), (1, .sl 2 0 S.length c2), (2, .sl 3 0 J.length c4), (9, .sl 4 0 L.length cap), (10, .i .i64 ((k + 1 : Nat) : Int))] : List (Nat × AV)), Abs.look T p.1 = p.2) →
        ∃ i' : List Job × Int × Nat, ((i'.1.length = L.length ∧ (∀ j ∈ i'.1, wildK i'.2.2 j) ∧ (p1 ≤ i'.2.1 ∧ i'.2.1 ≤ p1 + i'.2.2) ∧ i'.2.2 ≤ L.length) ∧ L.length - i'.2.2 < L.length - k) ∧
          Wk 4 131 ⟨T, rdr B c q ++ [.ro (encTask.row S), .ro (encInt.row J), .rw ty_impl_Job (encJob.row M) (cap * 4)]⟩ ⟨[(0, .p 1 0), (1, .sl 2 0 S.length c2), (2, .sl 3 0 J.length c4), (9, .sl 4 0 L.length cap), (10, .i .i64 i'.2.2)], rdr B c i'.2.1 ++ [.ro (encTask.row S), .ro (encInt.row J), .rw ty_impl_Job (encJob.row i'.1) (cap * 4)]⟩ :=
      fun T hT => ⟨(M, q, k + 1), ⟨⟨hM, fun j hj => (hMw j hj).up (by simp only; omega), by simp only; omega, by simp only; omega⟩, by simp only; omega⟩, Wk.keep hT⟩
    refine ⟨by omega, by omega, fun g1 => ⟨fun g2 => ⟨fun g3 => ?_, fun g3 => ⟨by omega, same _ (by simp [look_cons])⟩⟩, fun g2 => ⟨by omega, same _ (by simp [look_cons])⟩⟩, fun g1 => ⟨by omega, same _ (by simp [look_cons])⟩⟩
    have htJ : M[k].T.toNat < J.length := by omega
    have hj := hJ.2 _ (List.getElem_mem htJ)
    simp only [rdI htJ, lenI, not_true_eq_false, not_false_eq_true, decide_true, decide_false, Bool.not_true, Bool.not_false, false_implies, true_implies, and_true, true_and, Bool.false_eq_true, Bool.true_eq_false, implies_true, Bool.not_not, Classical.not_not, go_sem, Int.reduceToNat, List.take_nil, Nat.zero_mul, Nat.reduceEqDiff, Nat.reduceAdd, Nat.reduceLT, Nat.reduceLeDiff, Nat.reduceMul, ↓reduceIte, reduceCtorEq]
    have hmx : 1 ≤ (if 1 < J[M[k].T.toNat] + 1 then J[M[k].T.toNat] + 1 else 1) ∧ (if 1 < J[M[k].T.toNat] + 1 then J[M[k].T.toNat] + 1 else 1) ≤ 21 := by split <;> omega
    generalize (if 1 < J[M[k].T.toNat] + 1 then J[M[k].T.toNat] + 1 else 1) = mx at hmx ⊢
    repeat refine ⟨by omega, ?_⟩
    refine spec_l20Rd_pick_ (Rdr.of (τ := [_, _, _])) hC (by omega) _ (by omega) fun r h41 h42 _ => ?_
    have h42' := h42 (by omega)
    simp only [rdJ1 hkM, rdI htJ, lenI, lenJ, hM, splJ1 hkM, not_true_eq_false, not_false_eq_true, decide_true, decide_false, Bool.not_true, Bool.not_false, false_implies, true_implies, and_true, true_and, Bool.false_eq_true, Bool.true_eq_false, implies_true, Bool.not_not, Classical.not_not, go_sem, Int.reduceToNat, List.take_nil, Nat.zero_mul, Nat.reduceEqDiff, Nat.reduceAdd, Nat.reduceLT, Nat.reduceLeDiff, Nat.reduceMul, ↓reduceIte, reduceCtorEq]
    repeat refine ⟨by omega, ?_⟩
    refine ⟨(M.set k ⟨M[k].T, M[k].R + r, M[k].D, M[k].E⟩, q + 1, k + 1), ⟨⟨by simp only [List.length_set]; exact hM, mem_set (fun j hj => (hMw j hj).up (by simp only; omega)) (by unfold wildK; simp only; omega), by simp only; omega, by simp only; omega⟩, by simp only; omega⟩, Wk.pick [0, 1, 2, 3, 4]⟩
  · have hMw2 : ∀ j ∈ M, wildK 62 j := fun j hj => (hMw j hj).up (by omega)
    refine loop_intro (fun i : List Job × Nat × Nat => ⟨[(9, .sl 4 0 L.length cap), (12, .sl 5 0 i.1.length i.2.1), (13, .i .i64 i.2.2)], rdr B c q ++ [.ro (encTask.row S), .ro (encInt.row J), .rw ty_impl_Job (encJob.row M) (cap * 4), .rw ty_impl_Job (encJob.row i.1) (i.2.1 * 4)]⟩)
      (fun i => i.1.length = i.2.2 ∧ (∀ j ∈ i.1, wildK 62 j) ∧ i.2.2 ≤ L.length ∧ i.1.length ≤ i.2.1) (fun i => L.length - i.2.2) ([], 0, 0) ⟨rfl, by simp, Nat.zero_le _, Nat.le_refl _⟩ (Wk.pick [0, 1, 2, 3, 4, 5]) ?_
    rintro ⟨U, capU, i⟩ ⟨hU, hUw, hi, hcU⟩
    simp only at hU hUw hi hcU
    simp only [l1_spec_l20Late, not_true_eq_false, not_false_eq_true, decide_true, decide_false, Bool.not_true, Bool.not_false, false_implies, true_implies, and_true, true_and, Bool.false_eq_true, Bool.true_eq_false, implies_true, Bool.not_not, Classical.not_not, go_sem, Int.reduceToNat, List.take_nil, Nat.zero_mul, Nat.reduceEqDiff, Nat.reduceAdd, Nat.reduceLT, Nat.reduceLeDiff, Nat.reduceMul, ↓reduceIte, reduceCtorEq]
    refine ⟨fun hlt => ?_, fun hge => ?_⟩
    · have hiM : i < M.length := by omega
      have hwi := hMw2 _ (List.getElem_mem hiM)
      refine loop_intro (fun m : Nat => ⟨[(9, .sl 4 0 L.length cap), (12, .sl 5 0 U.length capU), (13, .i .i64 i), (14, .i .i64 m)], rdr B c q ++ [.ro (encTask.row S), .ro (encInt.row J), .rw ty_impl_Job (encJob.row M) (cap * 4), .rw ty_impl_Job (encJob.row U) (capU * 4)]⟩)
        (fun m => m ≤ U.length) (fun m => m) U.length (Nat.le_refl _) (Wk.pick [0, 1, 2, 3, 4, 5]) fun m hm => ?_
      simp only [l0_spec_l20Late, not_true_eq_false, not_false_eq_true, decide_true, decide_false, Bool.not_true, Bool.not_false, false_implies, true_implies, and_true, true_and, Bool.false_eq_true, Bool.true_eq_false, implies_true, Bool.not_not, Classical.not_not, go_sem, Int.reduceToNat, List.take_nil, Nat.zero_mul, Nat.reduceEqDiff, Nat.reduceAdd, Nat.reduceLT, Nat.reduceLeDiff, Nat.reduceMul, ↓reduceIte, reduceCtorEq]
      have hx : wildK 62 ⟨M[i].T, M[i].R, M[i].D, M[i].E⟩ := hwi
      have hins : ∀ j ∈ U.take m ++ ⟨M[i].T, M[i].R, M[i].D, M[i].E⟩ :: U.drop m, wildK 62 j := by
        intro j hj
        rcases List.mem_append.1 hj with hj | hj
        · exact hUw j (List.mem_of_mem_take hj)
        · rcases List.mem_cons.1 hj with rfl | hj
          · exact hx
          · exact hUw j (List.mem_of_mem_drop hj)
      have lins : (U.take m ++ (⟨M[i].T, M[i].R, M[i].D, M[i].E⟩ : Job) :: U.drop m).length = i + 1 := by
        rw [List.length_append, List.length_cons, List.length_take, List.length_drop]; omega
      have eT : (encJob.row U).take (m * 4) = encJob.row (U.take m) := encJob.take U m
      have eD : win (encJob.row U) (m * 4) ((U.length - m) * 4) = encJob.row (U.drop m) := row_drop U hm
      have e1 : [AV.i .i64 M[i].T, AV.i .i64 M[i].R, AV.i .i64 M[i].D, AV.i .i64 M[i].E] ++ encJob.row (U.drop m) = encJob.row (⟨M[i].T, M[i].R, M[i].D, M[i].E⟩ :: U.drop m) := by
        rw [show (⟨M[i].T, M[i].R, M[i].D, M[i].E⟩ : Job) :: U.drop m = [⟨M[i].T, M[i].R, M[i].D, M[i].E⟩] ++ U.drop m from rfl, encJob.row_append, encJob.row_one]; rfl
      have e2 : ∀ V : List Job, win (encJob.row V) 0 (V.length * 4) = encJob.row V := fun V => by simp only [win, List.drop_zero]; exact takeJ V
      have e1' : AV.i .i64 M[i].T :: .i .i64 M[i].R :: .i .i64 M[i].D :: .i .i64 M[i].E :: encJob.row (U.drop m) = encJob.row (⟨M[i].T, M[i].R, M[i].D, M[i].E⟩ :: U.drop m) := e1
      have et4 : ∀ a b c d : AV, List.take 4 [a, b, c, d] = [a, b, c, d] := fun _ _ _ _ => rfl
      have lV : 1 + (U.length - m) = ((⟨M[i].T, M[i].R, M[i].D, M[i].E⟩ : Job) :: U.drop m).length := by rw [List.length_cons, List.length_drop]; omega
      have e3 : win (encJob.row ((⟨M[i].T, M[i].R, M[i].D, M[i].E⟩ : Job) :: U.drop m)) 0 ((1 + (U.length - m)) * 4) = encJob.row (⟨M[i].T, M[i].R, M[i].D, M[i].E⟩ :: U.drop m) := by rw [lV]; exact e2 _
      have e4 : encJob.row (U.take m) ++ encJob.row ((⟨M[i].T, M[i].R, M[i].D, M[i].E⟩ : Job) :: U.drop m) = encJob.row (U.take m ++ ⟨M[i].T, M[i].R, M[i].D, M[i].E⟩ :: U.drop m) := (encJob.row_append _ _).symm
      have eL : m + (1 + (U.length - m)) = (U.take m ++ (⟨M[i].T, M[i].R, M[i].D, M[i].E⟩ : Job) :: U.drop m).length := by rw [lins]; omega
      refine ⟨fun h0 => ?_, fun h0 => ?_⟩
      · have hm1 : m - 1 < U.length := by omega
        have em : ((m : Int) - 1).toNat = m - 1 := by omega
        have em2 : (m : Int) - 1 = ((m - 1 : Nat) : Int) := by omega
        simp only [em, rdJ0 hm1, rdJ1 hm1, rdJ0 hiM, rdJ1 hiM, lenJ, hM, not_true_eq_false, not_false_eq_true, decide_true, decide_false, Bool.not_true, Bool.not_false, false_implies, true_implies, and_true, true_and, Bool.false_eq_true, Bool.true_eq_false, implies_true, Bool.not_not, Classical.not_not, go_sem, Int.reduceToNat, List.take_nil, Nat.zero_mul, Nat.reduceEqDiff, Nat.reduceAdd, Nat.reduceLT, Nat.reduceLeDiff, Nat.reduceMul, ↓reduceIte, reduceCtorEq]
        refine ⟨by omega, by omega, by omega, by omega, by omega, fun a1 => ⟨by omega, by omega, by omega, by omega, by omega, fun a2 => ⟨by omega, by omega, by omega, by omega, by omega, fun a3 => ⟨by omega, m - 1, ⟨by omega, by omega⟩, by rw [em2]; exact Wk.pick [0, 1, 2, 3, 4, 5]⟩, fun a3 => ?_⟩, fun a2 => ?_⟩, fun a1 => ⟨by omega, m - 1, ⟨by omega, by omega⟩, by rw [em2]; exact Wk.pick [0, 1, 2, 3, 4, 5]⟩⟩
        · simp only [winJ hiM, encJ, lenJ, hM, et4, eD, e1, e3, eT, e4, List.length_cons, List.length_nil, List.length_drop, not_true_eq_false, not_false_eq_true, decide_true, decide_false, Bool.not_true, Bool.not_false, false_implies, true_implies, and_true, true_and, Bool.false_eq_true, Bool.true_eq_false, implies_true, Bool.not_not, Classical.not_not, go_sem, Int.reduceToNat, List.take_nil, Nat.zero_mul, Nat.reduceEqDiff, Nat.reduceAdd, Nat.reduceLT, Nat.reduceLeDiff, Nat.reduceMul, ↓reduceIte, reduceCtorEq]
          refine ⟨.inr hm, by omega, by omega, hm, fun k1 => ?_, fun k1 => ?_⟩
          · refine ⟨by omega, fun cap1 hc1 => ⟨by omega, by omega, fun cap2 hc2 => ⟨by omega, by omega, (U.take m ++ ⟨M[i].T, M[i].R, M[i].D, M[i].E⟩ :: U.drop m, cap2, i + 1), ⟨⟨lins, hins, by simp only; omega, by simp only [lins]; omega⟩, by simp only; omega⟩, ?_⟩⟩⟩
            rw [eL]
            exact Wk.pick [0, 1, 2, 3, 4, 8]
          · have hmU : m = U.length := by omega
            have eW : win (encJob.row U) 0 ((U.length - m) * 4) = encJob.row (U.drop m) := by
              rw [show U.length - m = 0 by omega, List.drop_of_length_le (by omega)]; rfl
            simp only [eW, e1', e3, e4, lenJ, List.length_drop, not_true_eq_false, not_false_eq_true, decide_true, decide_false, Bool.not_true, Bool.not_false, false_implies, true_implies, and_true, true_and, Bool.false_eq_true, Bool.true_eq_false, implies_true, Bool.not_not, Classical.not_not, go_sem, Int.reduceToNat, List.take_nil, Nat.zero_mul, Nat.reduceEqDiff, Nat.reduceAdd, Nat.reduceLT, Nat.reduceLeDiff, Nat.reduceMul, ↓reduceIte, reduceCtorEq]
            refine ⟨by omega, fun cap1 hc1 => ⟨by omega, by omega, fun cap2 hc2 => ⟨by omega, by omega, (U.take m ++ ⟨M[i].T, M[i].R, M[i].D, M[i].E⟩ :: U.drop m, cap2, i + 1), ⟨⟨lins, hins, by simp only; omega, by simp only [lins]; omega⟩, by simp only; omega⟩, ?_⟩⟩⟩
            rw [eL]
            exact Wk.pick [0, 1, 2, 3, 4, 8]
        · simp only [winJ hiM, encJ, lenJ, hM, et4, eD, e1, e3, eT, e4, List.length_cons, List.length_nil, List.length_drop, not_true_eq_false, not_false_eq_true, decide_true, decide_false, Bool.not_true, Bool.not_false, false_implies, true_implies, and_true, true_and, Bool.false_eq_true, Bool.true_eq_false, implies_true, Bool.not_not, Classical.not_not, go_sem, Int.reduceToNat, List.take_nil, Nat.zero_mul, Nat.reduceEqDiff, Nat.reduceAdd, Nat.reduceLT, Nat.reduceLeDiff, Nat.reduceMul, ↓reduceIte, reduceCtorEq]
          refine ⟨.inr hm, by omega, by omega, hm, fun k1 => ?_, fun k1 => ?_⟩
          · refine ⟨by omega, fun cap1 hc1 => ⟨by omega, by omega, fun cap2 hc2 => ⟨by omega, by omega, (U.take m ++ ⟨M[i].T, M[i].R, M[i].D, M[i].E⟩ :: U.drop m, cap2, i + 1), ⟨⟨lins, hins, by simp only; omega, by simp only [lins]; omega⟩, by simp only; omega⟩, ?_⟩⟩⟩
            rw [eL]
            exact Wk.pick [0, 1, 2, 3, 4, 8]
          · have hmU : m = U.length := by omega
            have eW : win (encJob.row U) 0 ((U.length - m) * 4) = encJob.row (U.drop m) := by
              rw [show U.length - m = 0 by omega, List.drop_of_length_le (by omega)]; rfl
            simp only [eW, e1', e3, e4, lenJ, List.length_drop, not_true_eq_false, not_false_eq_true, decide_true, decide_false, Bool.not_true, Bool.not_false, false_implies, true_implies, and_true, true_and, Bool.false_eq_true, Bool.true_eq_false, implies_true, Bool.not_not, Classical.not_not, go_sem, Int.reduceToNat, List.take_nil, Nat.zero_mul, Nat.reduceEqDiff, Nat.reduceAdd, Nat.reduceLT, Nat.reduceLeDiff, Nat.reduceMul, ↓reduceIte, reduceCtorEq]
            refine ⟨by omega, fun cap1 hc1 => ⟨by omega, by omega, fun cap2 hc2 => ⟨by omega, by omega, (U.take m ++ ⟨M[i].T, M[i].R, M[i].D, M[i].E⟩ :: U.drop m, cap2, i + 1), ⟨⟨lins, hins, by simp only; omega, by simp only [lins]; omega⟩, by simp only; omega⟩, ?_⟩⟩⟩
            rw [eL]
            exact Wk.pick [0, 1, 2, 3, 4, 8]
      · simp only [winJ hiM, encJ, lenJ, hM, et4, eD, e1, e3, eT, e4, List.length_cons, List.length_nil, List.length_drop, not_true_eq_false, not_false_eq_true, decide_true, decide_false, Bool.not_true, Bool.not_false, false_implies, true_implies, and_true, true_and, Bool.false_eq_true, Bool.true_eq_false, implies_true, Bool.not_not, Classical.not_not, go_sem, Int.reduceToNat, List.take_nil, Nat.zero_mul, Nat.reduceEqDiff, Nat.reduceAdd, Nat.reduceLT, Nat.reduceLeDiff, Nat.reduceMul, ↓reduceIte, reduceCtorEq]
        refine ⟨.inr hm, by omega, by omega, hm, fun k1 => ?_, fun k1 => ?_⟩
        · refine ⟨by omega, fun cap1 hc1 => ⟨by omega, by omega, fun cap2 hc2 => ⟨by omega, by omega, (U.take m ++ ⟨M[i].T, M[i].R, M[i].D, M[i].E⟩ :: U.drop m, cap2, i + 1), ⟨⟨lins, hins, by simp only; omega, by simp only [lins]; omega⟩, by simp only; omega⟩, ?_⟩⟩⟩
          rw [eL]
          exact Wk.pick [0, 1, 2, 3, 4, 8]
        · have hmU : m = U.length := by omega
          have eW : win (encJob.row U) 0 ((U.length - m) * 4) = encJob.row (U.drop m) := by
            rw [show U.length - m = 0 by omega, List.drop_of_length_le (by omega)]; rfl
          simp only [eW, e1', e3, e4, lenJ, List.length_drop, not_true_eq_false, not_false_eq_true, decide_true, decide_false, Bool.not_true, Bool.not_false, false_implies, true_implies, and_true, true_and, Bool.false_eq_true, Bool.true_eq_false, implies_true, Bool.not_not, Classical.not_not, go_sem, Int.reduceToNat, List.take_nil, Nat.zero_mul, Nat.reduceEqDiff, Nat.reduceAdd, Nat.reduceLT, Nat.reduceLeDiff, Nat.reduceMul, ↓reduceIte, reduceCtorEq]
          refine ⟨by omega, fun cap1 hc1 => ⟨by omega, by omega, fun cap2 hc2 => ⟨by omega, by omega, (U.take m ++ ⟨M[i].T, M[i].R, M[i].D, M[i].E⟩ :: U.drop m, cap2, i + 1), ⟨⟨lins, hins, by simp only; omega, by simp only [lins]; omega⟩, by simp only; omega⟩, ?_⟩⟩⟩
          rw [eL]
          exact Wk.pick [0, 1, 2, 3, 4, 8]
    · exact Fin.pick [0, 1, 2, 3, 5] (.sl 4 0 U.length capU) _ ⟨q, _, rfl, by omega, U, capU, rfl, rfl, by omega, hUw⟩

theorem spec_l20Late_ {σ : List AB} {n m o c : Nat} {B : List Nat} {p : Int} (h : Rdr ty_spec_l20Rd σ n B p m o c) (hC : Code B) (hp : 0 ≤ p ∧ p ≤ 3500000000000) {S : List Task} (hS : setOk S) {J : List Int} (hJ : J.length ≤ 9 ∧ ∀ j ∈ J, -1 ≤ j ∧ j ≤ 20) {v w : AV} (hv : (⟨v, S.length, encTask.row S⟩ : Sl).okx σ n) (hw : (⟨w, J.length, encInt.row J⟩ : Sl).okx σ n)
    (k : Int) (hk : k ≤ 1000) {K : AV → List AB → Prop}
    (hK : ∀ (L : List Job) (cap : Nat) (p' : Int), p ≤ p' → p' ≤ p + 4000 → L.length ≤ 62 → (∀ j ∈ L, wildK 62 j) → K (.sl σ.length 0 L.length cap) (σ.set n (.rw ty_spec_l20Rd [.sl m o B.length c, .i .i64 p'] 2) ++ [.rw ty_impl_Job (encJob.row L) (cap * 4)])) :
    CallWp Try.prog n_spec_l20Late [.p n 0, v, w, .i .i64 k] σ K := by
  refine call_rdr ty_spec_l20Rd h [⟨v, S.length, encTask.row S⟩, ⟨w, J.length, encInt.row J⟩] (by intro s hs; rcases List.mem_cons.1 hs with rfl | hs; exact hv; rw [List.mem_singleton.1 hs]; exact hw) (fun q => [.sl 2 0 S.length (q 2), .sl 3 0 J.length (q 3), .i .i64 k]) (LateP 4 p) (fun q => spec_l20Late0 B p hC hp S hS J hJ k hk c (q 2) (q 3)) ?_ (fun _ _ h => ⟨h.1, h.2.1, .inl rfl, trivial⟩) (fun _ => rfl) ?_
  · rintro x p' τ ⟨_, L, cap, rfl, rfl, _⟩; exact ⟨by simp [plainRw, encJob.row_flat], rfl⟩
  · rintro x p' τ ⟨⟨h1, h2⟩, L, cap, rfl, rfl, h3, h4⟩
    exact hK L cap p' h1 h2 h3 h4
end Go.Proofs.Ytdmoafmgeipenaa
