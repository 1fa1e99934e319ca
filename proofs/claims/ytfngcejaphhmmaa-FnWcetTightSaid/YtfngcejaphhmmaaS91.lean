import Derived.Test.YtfngcejaphhmmaaS90
import Derived.Test.YtfngcejaphhmmaaD2
import Derived.Test.YtfngcejaphhmmaaC5
namespace Go.Proofs.Ytfngcejaphhmmaa
open Go.Abs Go.Ds
set_option linter.unusedSimpArgs false
set_option linter.unusedVariables false
set_option maxRecDepth 20000
set_option maxHeartbeats 2000000
theorem appN (L : List Nd) (a b c d e : Int) : encNd.row L ++ [.i .i64 a, .i .i64 b, .i .i64 c, .i .i64 d, .i .i64 e] = encNd.row (L ++ [⟨a, b, c, d, e⟩]) := by rw [encNd.row_append, encNd.row_one]; rfl
theorem splN0 {L : List Nd} {k : Nat} (h : k < L.length) (a : Int) : spl (encNd.row L) (k * 5) [.i .i64 a] = encNd.row (L.set k ⟨a, L[k].C, L[k].A, L[k].B, L[k].Bd⟩) := Enc_set1 encNd L k h 0 (by decide) _ _ rfl
theorem splN1 {L : List Nd} {k : Nat} (h : k < L.length) (a : Int) : spl (encNd.row L) (k * 5 + 1) [.i .i64 a] = encNd.row (L.set k ⟨L[k].K, a, L[k].A, L[k].B, L[k].Bd⟩) := Enc_set1 encNd L k h 1 (by decide) _ _ rfl
theorem takeN' (L : List Nd) {m : Nat} (h : m ≤ L.length) : (encNd.row L).take (m * 5) = encNd.row (L.take m) := by
  have e := encNd.row_append (L.take m) (L.drop m)
  rw [List.take_append_drop] at e
  rw [e, List.take_left' (by rw [lenN, List.length_take, Nat.min_eq_left h])]
def fstOk (L : List Nd) : Prop := (gN L 0).K = 1 ∧ (1 ≤ (gN L 0).C ∧ (gN L 0).C ≤ 9) ∧ (gN L 0).A = 0 ∧ (gN L 0).B = 0 ∧ (gN L 0).Bd = 0
theorem fst_app {L R : List Nd} (h : 1 ≤ L.length) : gN (L ++ R) 0 = gN L 0 := by
  simp [gN, List.getD_eq_getElem?_getD, List.getElem?_append_left h]
theorem fst_take {L : List Nd} {m : Nat} (h : 1 ≤ m) : gN (L.take m) 0 = gN L 0 := by
  simp [gN, List.getD_eq_getElem?_getD, List.getElem?_take, show 0 < m by omega]
theorem fst_prog {L : List Nd} (h : fstOk L) (hl : 1 ≤ L.length) : progOk (L.take 1) := by
  have e := fst_take (L := L) (Nat.le_refl 1)
  have l1 : (L.take 1).length = 1 := by rw [List.length_take]; omega
  refine ⟨by omega, fun k hk => ?_, ?_⟩
  · have : k = 0 := by omega
    subst this
    rw [e]; unfold ndOk; unfold fstOk at h; omega
  · rw [l1, cost_one true (by rw [e]; exact h.1), e]; unfold fstOk at h; omega
def ProgP (p : Int) (x : AV) (p' : Int) (τ : List AB) : Prop := (p ≤ p' ∧ p' ≤ p + 3000) ∧ ∃ (L : List Nd) (m cap : Nat), x = .sl 2 0 m cap ∧ τ = [.rw ty_impl_Node (encNd.row L) (cap * 5)] ∧ m ≤ L.length ∧ L.length ≤ 20
theorem spec_l20Prog0 (B : List Nat) (p : Int) (hC : Code B) (hp : 0 ≤ p ∧ p ≤ 3600000000000) (n : Int) (hn : n ≤ 1000) (c : Nat) :
    CallWp Try.prog n_spec_l20Prog [.p 1 0, .i .i64 n] (rdr B c p) (fun x σ' => ∃ p' τ, σ' = rdr B c p' ++ τ ∧ ProgP p x p' τ) := by
  refine call_spec_l20Prog (by simp) ?_
  simp only [c_spec_l20Prog, not_true_eq_false, not_false_eq_true, decide_true, decide_false, Bool.not_true, Bool.not_false, false_implies, true_implies, and_true, true_and, Bool.false_eq_true, Bool.true_eq_false, implies_true, Bool.not_not, Classical.not_not, go_sem, Int.reduceToNat, List.take_nil, Nat.zero_mul, Nat.reduceEqDiff, Nat.reduceAdd, Nat.reduceLT, Nat.reduceLeDiff, Nat.reduceMul, ↓reduceIte, reduceCtorEq]
  refine spec_l20Rd_pick_ (Rdr.of (τ := [])) hC (by omega) _ (by omega) fun r0 h01 h02 _ => ?_
  have h02' := h02 (by omega)
  simp only [not_true_eq_false, not_false_eq_true, decide_true, decide_false, Bool.not_true, Bool.not_false, false_implies, true_implies, and_true, true_and, Bool.false_eq_true, Bool.true_eq_false, implies_true, Bool.not_not, Classical.not_not, go_sem, Int.reduceToNat, List.take_nil, Nat.zero_mul, Nat.reduceEqDiff, Nat.reduceAdd, Nat.reduceLT, Nat.reduceLeDiff, Nat.reduceMul, ↓reduceIte, reduceCtorEq]
  refine ⟨by omega, ?_⟩
  refine spec_l20Rd_pick_ (Rdr.of (τ := [_])) hC (by omega) _ (by omega) fun r1 h11 h12 _ => ?_
  have h12' := h12 (by omega)
  simp only [not_true_eq_false, not_false_eq_true, decide_true, decide_false, Bool.not_true, Bool.not_false, false_implies, true_implies, and_true, true_and, Bool.false_eq_true, Bool.true_eq_false, implies_true, Bool.not_not, Classical.not_not, go_sem, Int.reduceToNat, List.take_nil, Nat.zero_mul, Nat.reduceEqDiff, Nat.reduceAdd, Nat.reduceLT, Nat.reduceLeDiff, Nat.reduceMul, ↓reduceIte, reduceCtorEq]
  rw [show ([AV.i .i64 1, AV.i .i64 (1 + r0), AV.i .i64 0, AV.i .i64 0, AV.i .i64 0] : List AV) = encNd.row [⟨1, 1 + r0, 0, 0, 0⟩] from rfl]
  refine loop_intro (fun i : List Nd × Nat × Int × Int => ⟨[(0, .p 1 0), (1, .i .i64 n), (5, .sl 2 0 i.1.length i.2.1), (6, .i .i64 i.2.2.2)], rdr B c i.2.2.1 ++ [.rw ty_impl_Node (encNd.row i.1) (i.2.1 * 5)]⟩)
    (fun i => fstOk i.1 ∧ 1 ≤ i.1.length ∧ 0 ≤ i.2.2.2 ∧ i.1.length + i.2.2.2 ≤ 12 ∧ p ≤ i.2.2.1 ∧ i.2.2.1 ≤ p + 2 + 5 * (12 - i.2.2.2)) (fun i => i.2.2.2.toNat) ([⟨1, 1 + r0, 0, 0, 0⟩], 1, p + 1 + 1, r1) ⟨by unfold fstOk gN; simp; omega, by simp, by simp only; omega, by simp; omega, by simp only; omega, by simp only; omega⟩ (Wk.pick [0, 1, 2]) ?_
  rintro ⟨L, cap, q, k⟩ ⟨hf, hL, hk, hkL, hq1, hq2⟩
  simp only at hf hL hk hkL hq1 hq2
  simp only [l2_spec_l20Prog, not_true_eq_false, not_false_eq_true, decide_true, decide_false, Bool.not_true, Bool.not_false, false_implies, true_implies, and_true, true_and, Bool.false_eq_true, Bool.true_eq_false, implies_true, Bool.not_not, Classical.not_not, go_sem, Int.reduceToNat, List.take_nil, Nat.zero_mul, Nat.reduceEqDiff, Nat.reduceAdd, Nat.reduceLT, Nat.reduceLeDiff, Nat.reduceMul, ↓reduceIte, reduceCtorEq]
  refine ⟨fun hlt => ?_, fun hge => ?_⟩
  · refine spec_l20Rd_pick_ (Rdr.of (τ := [_])) hC (by omega) _ (by omega) fun r2 h21 h22 _ => ?_
    have h22' := h22 (by omega)
    simp only [not_true_eq_false, not_false_eq_true, decide_true, decide_false, Bool.not_true, Bool.not_false, false_implies, true_implies, and_true, true_and, Bool.false_eq_true, Bool.true_eq_false, implies_true, Bool.not_not, Classical.not_not, go_sem, Int.reduceToNat, List.take_nil, Nat.zero_mul, Nat.reduceEqDiff, Nat.reduceAdd, Nat.reduceLT, Nat.reduceLeDiff, Nat.reduceMul, ↓reduceIte, reduceCtorEq]
    have J : ∀ (x : Nd) (q' : Int), q ≤ q' → q' ≤ q + 5 → (fstOk (L ++ [x]) ∧ 1 ≤ (L ++ [x]).length ∧ 0 ≤ k - 1 ∧ ((L ++ [x]).length : Int) + (k - 1) ≤ 12 ∧ p ≤ q' ∧ q' ≤ p + 2 + 5 * (12 - (k - 1))) ∧ (k - 1).toNat < k.toNat := fun x q' g1 g2 => by
      have e : (L ++ [x]).length = L.length + 1 := by simp
      exact ⟨⟨by unfold fstOk; rw [fst_app hL]; exact hf, by omega, by omega, by omega, by omega, by omega⟩, by omega⟩
    refine ⟨by omega, fun e1 => ?_, fun e1 => ⟨fun e2 => ?_, fun e2 => ⟨fun e3 => ?_, fun e3 => ?_⟩⟩⟩
    · refine spec_l20Rd_pick_ (Rdr.of (τ := [_, _])) hC (by omega) _ (by omega) fun r3 r3a r3b _ => ?_
      have r3c := r3b (by omega)
      simp only [lenN, takeN, appN, not_true_eq_false, not_false_eq_true, decide_true, decide_false, Bool.not_true, Bool.not_false, false_implies, true_implies, and_true, true_and, Bool.false_eq_true, Bool.true_eq_false, implies_true, Bool.not_not, Classical.not_not, go_sem, Int.reduceToNat, List.take_nil, Nat.zero_mul, Nat.reduceEqDiff, Nat.reduceAdd, Nat.reduceLT, Nat.reduceLeDiff, Nat.reduceMul, ↓reduceIte, reduceCtorEq]
      repeat' first
        | omega
        | (intro cap' _; exact ⟨by omega, (L ++ [⟨1 + r2, 1 + r3, 0, 0, 0⟩], cap', q + 1 + 1, k - 1), J _ (q + 1 + 1) (by omega) (by omega), Wk.pick [0, 1, 5]⟩)
        | refine ⟨?_, ?_⟩
    · refine spec_l20Rd_pick_ (Rdr.of (τ := [_, _])) hC (by omega) _ (by omega) fun r3 r3a r3b _ => ?_
      have r3c := r3b (by omega)
      simp only [lenN, takeN, appN, not_true_eq_false, not_false_eq_true, decide_true, decide_false, Bool.not_true, Bool.not_false, false_implies, true_implies, and_true, true_and, Bool.false_eq_true, Bool.true_eq_false, implies_true, Bool.not_not, Classical.not_not, go_sem, Int.reduceToNat, List.take_nil, Nat.zero_mul, Nat.reduceEqDiff, Nat.reduceAdd, Nat.reduceLT, Nat.reduceLeDiff, Nat.reduceMul, ↓reduceIte, reduceCtorEq]
      refine spec_l20Rd_pick_ (Rdr.of (τ := [_, _])) hC (by omega) _ (by omega) fun r4 r4a r4b _ => ?_
      have r4c := r4b (by omega)
      simp only [lenN, takeN, appN, not_true_eq_false, not_false_eq_true, decide_true, decide_false, Bool.not_true, Bool.not_false, false_implies, true_implies, and_true, true_and, Bool.false_eq_true, Bool.true_eq_false, implies_true, Bool.not_not, Classical.not_not, go_sem, Int.reduceToNat, List.take_nil, Nat.zero_mul, Nat.reduceEqDiff, Nat.reduceAdd, Nat.reduceLT, Nat.reduceLeDiff, Nat.reduceMul, ↓reduceIte, reduceCtorEq]
      repeat' first
        | omega
        | (intro cap' _; exact ⟨by omega, (L ++ [⟨1 + r2, 0, r3, r4, 0⟩], cap', q + 1 + 1 + 1, k - 1), J _ (q + 1 + 1 + 1) (by omega) (by omega), Wk.pick [0, 1, 5]⟩)
        | refine ⟨?_, ?_⟩
    · refine spec_l20Rd_pick_ (Rdr.of (τ := [_, _])) hC (by omega) _ (by omega) fun r3 r3a r3b _ => ?_
      have r3c := r3b (by omega)
      simp only [lenN, takeN, appN, not_true_eq_false, not_false_eq_true, decide_true, decide_false, Bool.not_true, Bool.not_false, false_implies, true_implies, and_true, true_and, Bool.false_eq_true, Bool.true_eq_false, implies_true, Bool.not_not, Classical.not_not, go_sem, Int.reduceToNat, List.take_nil, Nat.zero_mul, Nat.reduceEqDiff, Nat.reduceAdd, Nat.reduceLT, Nat.reduceLeDiff, Nat.reduceMul, ↓reduceIte, reduceCtorEq]
      refine ⟨by omega, ?_⟩
      refine spec_l20Rd_pick_ (Rdr.of (τ := [_, _])) hC (by omega) _ (by omega) fun r4 r4a r4b _ => ?_
      have r4c := r4b (by omega)
      simp only [lenN, takeN, appN, not_true_eq_false, not_false_eq_true, decide_true, decide_false, Bool.not_true, Bool.not_false, false_implies, true_implies, and_true, true_and, Bool.false_eq_true, Bool.true_eq_false, implies_true, Bool.not_not, Classical.not_not, go_sem, Int.reduceToNat, List.take_nil, Nat.zero_mul, Nat.reduceEqDiff, Nat.reduceAdd, Nat.reduceLT, Nat.reduceLeDiff, Nat.reduceMul, ↓reduceIte, reduceCtorEq]
      refine spec_l20Rd_pick_ (Rdr.of (τ := [_, _])) hC (by omega) _ (by omega) fun r5 r5a r5b _ => ?_
      have r5c := r5b (by omega)
      simp only [lenN, takeN, appN, not_true_eq_false, not_false_eq_true, decide_true, decide_false, Bool.not_true, Bool.not_false, false_implies, true_implies, and_true, true_and, Bool.false_eq_true, Bool.true_eq_false, implies_true, Bool.not_not, Classical.not_not, go_sem, Int.reduceToNat, List.take_nil, Nat.zero_mul, Nat.reduceEqDiff, Nat.reduceAdd, Nat.reduceLT, Nat.reduceLeDiff, Nat.reduceMul, ↓reduceIte, reduceCtorEq]
      repeat' first
        | omega
        | (intro cap' _; exact ⟨by omega, (L ++ [⟨1 + r2, 1 + r3, r4, r5, 0⟩], cap', q + 1 + 1 + 1 + 1, k - 1), J _ (q + 1 + 1 + 1 + 1) (by omega) (by omega), Wk.pick [0, 1, 5]⟩)
        | refine ⟨?_, ?_⟩
    · refine spec_l20Rd_pick_ (Rdr.of (τ := [_, _])) hC (by omega) _ (by omega) fun r3 r3a r3b _ => ?_
      have r3c := r3b (by omega)
      simp only [lenN, takeN, appN, not_true_eq_false, not_false_eq_true, decide_true, decide_false, Bool.not_true, Bool.not_false, false_implies, true_implies, and_true, true_and, Bool.false_eq_true, Bool.true_eq_false, implies_true, Bool.not_not, Classical.not_not, go_sem, Int.reduceToNat, List.take_nil, Nat.zero_mul, Nat.reduceEqDiff, Nat.reduceAdd, Nat.reduceLT, Nat.reduceLeDiff, Nat.reduceMul, ↓reduceIte, reduceCtorEq]
      refine ⟨by omega, ?_⟩
      refine spec_l20Rd_pick_ (Rdr.of (τ := [_, _])) hC (by omega) _ (by omega) fun r4 r4a r4b _ => ?_
      have r4c := r4b (by omega)
      simp only [lenN, takeN, appN, not_true_eq_false, not_false_eq_true, decide_true, decide_false, Bool.not_true, Bool.not_false, false_implies, true_implies, and_true, true_and, Bool.false_eq_true, Bool.true_eq_false, implies_true, Bool.not_not, Classical.not_not, go_sem, Int.reduceToNat, List.take_nil, Nat.zero_mul, Nat.reduceEqDiff, Nat.reduceAdd, Nat.reduceLT, Nat.reduceLeDiff, Nat.reduceMul, ↓reduceIte, reduceCtorEq]
      refine spec_l20Rd_pick_ (Rdr.of (τ := [_, _])) hC (by omega) _ (by omega) fun r5 r5a r5b _ => ?_
      have r5c := r5b (by omega)
      simp only [lenN, takeN, appN, not_true_eq_false, not_false_eq_true, decide_true, decide_false, Bool.not_true, Bool.not_false, false_implies, true_implies, and_true, true_and, Bool.false_eq_true, Bool.true_eq_false, implies_true, Bool.not_not, Classical.not_not, go_sem, Int.reduceToNat, List.take_nil, Nat.zero_mul, Nat.reduceEqDiff, Nat.reduceAdd, Nat.reduceLT, Nat.reduceLeDiff, Nat.reduceMul, ↓reduceIte, reduceCtorEq]
      repeat' first
        | omega
        | (intro cap' _; exact ⟨by omega, (L ++ [⟨1 + r2, 1 + r3, r4, 0, r5⟩], cap', q + 1 + 1 + 1 + 1, k - 1), J _ (q + 1 + 1 + 1 + 1) (by omega) (by omega), Wk.pick [0, 1, 5]⟩)
        | refine ⟨?_, ?_⟩
  · refine loop_intro (fun i : Nat => ⟨[(0, .p 1 0), (1, .i .i64 n), (5, .sl 2 0 i cap)], rdr B c q ++ [.rw ty_impl_Node (encNd.row L) (cap * 5)]⟩)
      (fun i => 1 ≤ i ∧ i ≤ L.length) (fun i => i) L.length ⟨hL, Nat.le_refl _⟩ (Wk.pick [0, 1, 2]) ?_
    rintro m ⟨hm1, hm2⟩
    have lm : (L.take m).length = m := by rw [List.length_take]; omega
    simp only [l1_spec_l20Prog, not_true_eq_false, not_false_eq_true, decide_true, decide_false, Bool.not_true, Bool.not_false, false_implies, true_implies, and_true, true_and, Bool.false_eq_true, Bool.true_eq_false, implies_true, Bool.not_not, Classical.not_not, go_sem, Int.reduceToNat, List.take_nil, Nat.zero_mul, Nat.reduceEqDiff, Nat.reduceAdd, Nat.reduceLT, Nat.reduceLeDiff, Nat.reduceMul, ↓reduceIte, reduceCtorEq]
    refine spec_ProgramValid_ (P := L.take m) (by omega) (Rd.first rfl hm2) ?_
    simp only [not_true_eq_false, not_false_eq_true, decide_true, decide_false, Bool.not_true, Bool.not_false, false_implies, true_implies, and_true, true_and, Bool.false_eq_true, Bool.true_eq_false, implies_true, Bool.not_not, Classical.not_not, go_sem, Int.reduceToNat, List.take_nil, Nat.zero_mul, Nat.reduceEqDiff, Nat.reduceAdd, Nat.reduceLT, Nat.reduceLeDiff, Nat.reduceMul, ↓reduceIte, reduceCtorEq]
    refine ⟨fun hno => ?_, fun hyes => ?_⟩
    · have h1 : m ≠ 1 := fun e => hno (by subst e; exact fst_prog hf hL)
      rw [show ((m : Int) - 1).toNat = m - 1 by omega]
      exact ⟨by omega, by omega, .inr (by omega), m - 1, ⟨⟨by omega, by omega⟩, by omega⟩, Wk.pick [0, 1, 2]⟩
    · refine seq_join (fun i : List Nd × Nat × Nat × Int => ⟨[(5, .sl 2 0 i.2.1 i.2.2.1)], rdr B c i.2.2.2 ++ [.rw ty_impl_Node (encNd.row i.1) (i.2.2.1 * 5)]⟩)
        (fun i => i.2.1 ≤ i.1.length ∧ i.1.length ≤ 20 ∧ p ≤ i.2.2.2 ∧ i.2.2.2 ≤ p + 3000) ?_ ?_
      · simp only [not_true_eq_false, not_false_eq_true, decide_true, decide_false, Bool.not_true, Bool.not_false, false_implies, true_implies, and_true, true_and, Bool.false_eq_true, Bool.true_eq_false, implies_true, Bool.not_not, Classical.not_not, go_sem, Int.reduceToNat, List.take_nil, Nat.zero_mul, Nat.reduceEqDiff, Nat.reduceAdd, Nat.reduceLT, Nat.reduceLeDiff, Nat.reduceMul, ↓reduceIte, reduceCtorEq]
        refine spec_l20Rd_odd_ (Rdr.of (τ := [_])) hC (by omega) _ (by omega) fun b q1 hb1 hb2 hb3 => ?_
        simp only [not_true_eq_false, not_false_eq_true, decide_true, decide_false, Bool.not_true, Bool.not_false, false_implies, true_implies, and_true, true_and, Bool.false_eq_true, Bool.true_eq_false, implies_true, Bool.not_not, Classical.not_not, go_sem, Int.reduceToNat, List.take_nil, Nat.zero_mul, Nat.reduceEqDiff, Nat.reduceAdd, Nat.reduceLT, Nat.reduceLeDiff, Nat.reduceMul, ↓reduceIte, reduceCtorEq]
        refine bc_of (fun hb => ?_) (fun hb => kJ_intro (L, m, cap, q1) (by simp only; omega) (Wk.pick [0, 1, 2]))
        refine spec_l20Rd_pick_ (Rdr.of (τ := [_])) hC (by omega) _ (by omega) fun r7 h71 h72 _ => ?_
        have h72' := h72 (by omega)
        simp only [not_true_eq_false, not_false_eq_true, decide_true, decide_false, Bool.not_true, Bool.not_false, false_implies, true_implies, and_true, true_and, Bool.false_eq_true, Bool.true_eq_false, implies_true, Bool.not_not, Classical.not_not, go_sem, Int.reduceToNat, List.take_nil, Nat.zero_mul, Nat.reduceEqDiff, Nat.reduceAdd, Nat.reduceLT, Nat.reduceLeDiff, Nat.reduceMul, ↓reduceIte, reduceCtorEq]
        refine ⟨fun e0 => ?_, fun e0 => ⟨fun e1 => ?_, fun e1 => ⟨fun e2 => ?_, fun e2 => ⟨fun e3 => ?_, fun e3 => ?_⟩⟩⟩⟩
        · exact Fin.pick [0, 1, 3] (.sl 2 0 0 0) (rdr B c (q1 + 1) ++ [.rw ty_impl_Node (encNd.row []) (0 * 5)]) ⟨q1 + 1, [.rw ty_impl_Node (encNd.row []) (0 * 5)], rfl, ⟨by omega, by omega⟩, [], 0, 0, rfl, rfl, by simp, by simp⟩
        · rw [takeN' L hm2, appN]
          refine ⟨by rw [lenN]; omega, fun cap' _ => kJ_intro (L.take m ++ [⟨2, 0, m, 0, 0⟩], m + 1, cap', q1 + 1) ⟨by simp; omega, by simp; omega, by simp only; omega, by simp only; omega⟩ (Wk.pick [0, 1, 4])⟩
        · refine spec_l20Rd_pick_ (Rdr.of (τ := [_])) hC (by omega) _ (by omega) fun r8 h81 h82 _ => ?_
          have h82' := h82 (by omega)
          have hr8 : r8.toNat < L.length := by omega
          simp only [not_true_eq_false, not_false_eq_true, decide_true, decide_false, Bool.not_true, Bool.not_false, false_implies, true_implies, and_true, true_and, Bool.false_eq_true, Bool.true_eq_false, implies_true, Bool.not_not, Classical.not_not, go_sem, Int.reduceToNat, List.take_nil, Nat.zero_mul, Nat.reduceEqDiff, Nat.reduceAdd, Nat.reduceLT, Nat.reduceLeDiff, Nat.reduceMul, ↓reduceIte, reduceCtorEq]
          refine spec_l20Rd_pick_ (Rdr.of (τ := [_, _])) hC (by omega) _ (by omega) fun r9 h91 h92 _ => ?_
          have h92' := h92 (by omega)
          obtain ⟨E, hE, eE⟩ := rd_int [0, 5] r9.toNat (by simp; omega)
          simp only [List.map_cons, List.map_nil] at eE
          simp only [eE, lenN, splN0 hr8, not_true_eq_false, not_false_eq_true, decide_true, decide_false, Bool.not_true, Bool.not_false, false_implies, true_implies, and_true, true_and, Bool.false_eq_true, Bool.true_eq_false, implies_true, Bool.not_not, Classical.not_not, go_sem, Int.reduceToNat, List.take_nil, Nat.zero_mul, Nat.reduceEqDiff, Nat.reduceAdd, Nat.reduceLT, Nat.reduceLeDiff, Nat.reduceMul, ↓reduceIte, reduceCtorEq]
          exact ⟨by omega, by omega, by omega, by omega, kJ_intro (L.set r8.toNat ⟨E, L[r8.toNat].C, L[r8.toNat].A, L[r8.toNat].B, L[r8.toNat].Bd⟩, m, cap, q1 + 1 + 1 + 1) ⟨by simp; omega, by simp; omega, by simp only; omega, by simp only; omega⟩ (Wk.pick [0, 1, 2])⟩
        · refine spec_l20Rd_pick_ (Rdr.of (τ := [_])) hC (by omega) _ (by omega) fun r8 h81 h82 _ => ?_
          have h82' := h82 (by omega)
          have hr8 : r8.toNat < L.length := by omega
          simp only [not_true_eq_false, not_false_eq_true, decide_true, decide_false, Bool.not_true, Bool.not_false, false_implies, true_implies, and_true, true_and, Bool.false_eq_true, Bool.true_eq_false, implies_true, Bool.not_not, Classical.not_not, go_sem, Int.reduceToNat, List.take_nil, Nat.zero_mul, Nat.reduceEqDiff, Nat.reduceAdd, Nat.reduceLT, Nat.reduceLeDiff, Nat.reduceMul, ↓reduceIte, reduceCtorEq]
          refine spec_l20Rd_pick_ (Rdr.of (τ := [_, _])) hC (by omega) _ (by omega) fun r9 h91 h92 _ => ?_
          have h92' := h92 (by omega)
          obtain ⟨E, hE, eE⟩ := rd_int [-1, 10, 0] r9.toNat (by simp; omega)
          simp only [List.map_cons, List.map_nil] at eE
          simp only [eE, lenN, splN1 hr8, not_true_eq_false, not_false_eq_true, decide_true, decide_false, Bool.not_true, Bool.not_false, false_implies, true_implies, and_true, true_and, Bool.false_eq_true, Bool.true_eq_false, implies_true, Bool.not_not, Classical.not_not, go_sem, Int.reduceToNat, List.take_nil, Nat.zero_mul, Nat.reduceEqDiff, Nat.reduceAdd, Nat.reduceLT, Nat.reduceLeDiff, Nat.reduceMul, ↓reduceIte, reduceCtorEq]
          exact ⟨by omega, by omega, by omega, by omega, kJ_intro (L.set r8.toNat ⟨L[r8.toNat].K, E, L[r8.toNat].A, L[r8.toNat].B, L[r8.toNat].Bd⟩, m, cap, q1 + 1 + 1 + 1) ⟨by simp; omega, by simp; omega, by simp only; omega, by simp only; omega⟩ (Wk.pick [0, 1, 2])⟩
        · refine loop_intro (fun i : List Nd × Nat × Nat => ⟨[(5, .sl 2 0 i.2.1 i.2.2)], rdr B c (q1 + 1) ++ [.rw ty_impl_Node (encNd.row i.1) (i.2.2 * 5)]⟩)
            (fun i => i.2.1 ≤ i.1.length ∧ i.1.length ≤ 20 ∧ i.2.1 ≤ 12) (fun i => 12 - i.2.1) (L, m, cap) ⟨hm2, by simp only; omega, by simp only; omega⟩ (Wk.pick [0, 1, 2]) ?_
          rintro ⟨L2, m2, cap2⟩ ⟨i1, i2, i3⟩
          simp only at i1 i2 i3
          simp only [l0_spec_l20Prog, not_true_eq_false, not_false_eq_true, decide_true, decide_false, Bool.not_true, Bool.not_false, false_implies, true_implies, and_true, true_and, Bool.false_eq_true, Bool.true_eq_false, implies_true, Bool.not_not, Classical.not_not, go_sem, Int.reduceToNat, List.take_nil, Nat.zero_mul, Nat.reduceEqDiff, Nat.reduceAdd, Nat.reduceLT, Nat.reduceLeDiff, Nat.reduceMul, ↓reduceIte, reduceCtorEq]
          refine ⟨fun hlt => ?_, fun hge => kJ_intro (L2, m2, cap2, q1 + 1) ⟨i1, i2, by simp only; omega, by simp only; omega⟩ (Wk.pick [0, 1, 2])⟩
          rw [takeN' L2 i1, appN]
          exact ⟨by omega, by rw [lenN]; omega, fun cap' _ => ⟨(L2.take m2 ++ [⟨4, 1, (m2 : Int) - 1, 0, 4⟩], m2 + 1, cap'), ⟨⟨by simp; omega, by simp; omega, by simp only; omega⟩, by simp only; omega⟩, Wk.pick [0, 1, 4]⟩⟩
      · rintro ⟨L', m', cap', q'⟩ ⟨j1, j2, j3, j4⟩
        simp only at j1 j2 j3 j4
        simp only [not_true_eq_false, not_false_eq_true, decide_true, decide_false, Bool.not_true, Bool.not_false, false_implies, true_implies, and_true, true_and, Bool.false_eq_true, Bool.true_eq_false, implies_true, Bool.not_not, Classical.not_not, go_sem, Int.reduceToNat, List.take_nil, Nat.zero_mul, Nat.reduceEqDiff, Nat.reduceAdd, Nat.reduceLT, Nat.reduceLeDiff, Nat.reduceMul, ↓reduceIte, reduceCtorEq]
        exact Fin.plain ⟨q', [.rw ty_impl_Node (encNd.row L') (cap' * 5)], rfl, ⟨by omega, by omega⟩, L', m', cap', rfl, rfl, j1, j2⟩
theorem spec_l20Prog_ {σ : List AB} {n m o c : Nat} {B : List Nat} {p : Int} (h : Rdr ty_spec_l20Rd σ n B p m o c) (hC : Code B) (hp : 0 ≤ p ∧ p ≤ 3600000000000) (k : Int) (hk : k ≤ 1000) {K : AV → List AB → Prop}
    (hK : ∀ (L : List Nd) (len cap : Nat) (p' : Int), len ≤ L.length → L.length ≤ 20 → K (.sl σ.length 0 len cap) (σ.set n (.rw ty_spec_l20Rd [.sl m o B.length c, .i .i64 p'] 2) ++ [.rw ty_impl_Node (encNd.row L) (cap * 5)])) :
    CallWp Try.prog n_spec_l20Prog [.p n 0, .i .i64 k] σ K := by
  refine call_rdr ty_spec_l20Rd h [] (by simp) (fun _ => [.i .i64 k]) (ProgP p) (fun _ => spec_l20Prog0 B p hC hp k hk c) ?_ (fun _ _ _ => ⟨.inl rfl, trivial⟩) (fun _ => rfl) ?_
  · rintro x p' τ ⟨_, L, len, cap, rfl, rfl, _⟩
    exact ⟨by simp [plainRw, Enc.row_flat], rfl⟩
  · rintro x p' τ ⟨_, L, len, cap, rfl, rfl, h1, h2⟩
    have e : shift 2 σ.length (AV.sl 2 0 len cap) = .sl σ.length 0 len cap := by simp [shift, ren, ren1, renC]
    have := hK L len cap p' h1 h2
    first
      | exact this
      | (simp only [List.length_nil, Nat.add_zero] at *; rw [e]; exact this)
end Go.Proofs.Ytfngcejaphhmmaa
