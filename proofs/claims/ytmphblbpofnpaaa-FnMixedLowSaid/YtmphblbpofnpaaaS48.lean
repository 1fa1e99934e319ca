import Derived.Test.YtmphblbpofnpaaaSX
import Derived.Test.YtmphblbpofnpaaaF2
import Derived.Test.YtmphblbpofnpaaaD4
namespace Go.Proofs.Ytmphblbpofnpaaa
open Go.Abs Go.Ds
set_option linter.unusedSimpArgs false
set_option linter.unusedVariables false
set_option maxRecDepth 20000
set_option maxHeartbeats 4000000
def wildM (t : MTask) : Prop := (0 ≤ t.Lo ∧ t.Lo ≤ 20) ∧ (0 ≤ t.Hi ∧ t.Hi ≤ 20) ∧ (0 ≤ t.P ∧ t.P ≤ 20)
theorem ok_wildM {t : MTask} (h : t.ok) : wildM t := by unfold MTask.ok at h; unfold wildM; omega
def MSetP (n p : Int) (x : AV) (p' : Int) (τ : List AB) : Prop := (p ≤ p' ∧ p' ≤ p + 200) ∧ ∃ (L : List MTask) (cap : Nat), x = .sl 2 0 L.length cap ∧ τ = [.rw ty_impl_MixedTask (encMT.row L) (cap * 4)] ∧ L.length ≤ 8 ∧ (∀ t ∈ L, wildM t) ∧ (n ≤ 0 → mixOk L)
theorem rd_per (r1 r2 : Int) (h1 : 0 ≤ r1 ∧ r1 < 10) (h2 : 0 ≤ r2 ∧ r2 < 5) : ∃ P : Int, (3 ≤ P ∧ P ≤ 12) ∧ rd [AV.i .i64 4, .i .i64 6, .i .i64 8, .i .i64 12, .i .i64 (3 + r1)] r2.toNat = .i .i64 P := by
  obtain ⟨P, hP, eP⟩ := rd_int [4, 6, 8, 12, 3 + r1] r2.toNat (by simp; omega)
  simp only [List.map_cons, List.map_nil] at eP
  simp only [List.mem_cons, List.not_mem_nil, or_false] at hP
  exact ⟨P, by omega, eP⟩
theorem spec_l20Mixed0 (B : List Nat) (p : Int) (hC : Code B) (hp : 0 ≤ p ∧ p ≤ 3700000000000) (n : Int) (hn : n ≤ 1000) (c : Nat) : CallWp Try.prog n_spec_l20Mixed [.p 1 0, .i .i64 n] (rdr B c p) (fun x σ' => ∃ p' τ, σ' = rdr B c p' ++ τ ∧ MSetP n p x p' τ) := by
  refine call_spec_l20Mixed (by simp) ?_
  simp only [c_spec_l20Mixed, go_sem, Int.reduceToNat, List.take_nil, Nat.zero_mul, Nat.reduceEqDiff, Nat.reduceAdd, Nat.reduceLT, Nat.reduceLeDiff, Nat.reduceMul, ↓reduceIte, reduceCtorEq]
  refine spec_l20Rd_pick_ (Rdr.of (τ := [_])) hC (by omega) _ (by omega) fun r1 h11 h12 _ => ?_
  simp only [go_sem, Int.reduceToNat, List.take_nil, Nat.zero_mul, Nat.reduceEqDiff, Nat.reduceAdd, Nat.reduceLT, Nat.reduceLeDiff, Nat.reduceMul, ↓reduceIte, reduceCtorEq]
  refine loop_intro (fun i : List MTask × Nat × Int × Int => ⟨[(0, .p 1 0), (1, .i .i64 n), (5, .sl 2 0 i.1.length i.2.1), (6, .i .i64 i.2.2.1)], rdr B c i.2.2.2 ++ [.rw ty_impl_MixedTask (encMT.row i.1) (i.2.1 * 4)]⟩)
    (fun i => (((i.1.length : Int) + i.2.2.1 ≤ 5 ∧ 0 ≤ i.2.2.1) ∧ i.1.length ≤ i.2.1) ∧ (∀ t ∈ i.1, t.ok) ∧ p ≤ i.2.2.2 ∧ i.2.2.2 ≤ p + 1 + 10 * i.1.length) (fun i => i.2.2.1.toNat) ([], 0, r1, p + 1) ?_ (Wk.pick [0, 1, 2]) ?_
  · simp only [List.length_nil]; refine ⟨by omega, by simp, by omega⟩
  rintro ⟨L, cap, k, q⟩ ⟨⟨⟨hk1, hk2⟩, hk3⟩, hL, hq1, hq2⟩
  simp only at hk1 hk2 hk3 hL hq1 hq2
  simp only [l1_spec_l20Mixed, go_sem, Int.reduceToNat, List.take_nil, Nat.zero_mul, Nat.reduceEqDiff, Nat.reduceAdd, Nat.reduceLT, Nat.reduceLeDiff, Nat.reduceMul, ↓reduceIte, reduceCtorEq]
  refine ⟨fun hk => ?_, fun hk => ?_⟩
  · refine seq_join (fun i : Int × Bool × Int => ⟨[(0, .p 1 0), (1, .i .i64 n), (5, .sl 2 0 L.length cap), (6, .i .i64 k), (7, .p 3 0)], rdr B c i.2.2 ++ [.rw ty_impl_MixedTask (encMT.row L) (cap * 4), .rw ty_impl_MixedTask [.i .i64 0, .i .i64 0, .i .i64 i.1, .b i.2.1] 4]⟩)
      (fun i => (3 ≤ i.1 ∧ i.1 ≤ 12) ∧ q ≤ i.2.2 ∧ i.2.2 ≤ q + 3) ?_ ?_
    · simp only [not_true_eq_false, not_false_eq_true, decide_true, decide_false, Bool.not_true, Bool.not_false, false_implies, true_implies, and_true, true_and, Bool.false_eq_true, Bool.true_eq_false, implies_true, Bool.not_not, Classical.not_not, go_sem, Int.reduceToNat, List.take_nil, Nat.zero_mul, Nat.reduceEqDiff, Nat.reduceAdd, Nat.reduceLT, Nat.reduceLeDiff, Nat.reduceMul, ↓reduceIte, reduceCtorEq]
      repeat' first
        | omega
        | (refine spec_l20Rd_pick_ (Rdr.of (τ := [_])) hC (by omega) 10 (by omega) fun a ha1 ha2 _ => ?_; simp only [not_true_eq_false, not_false_eq_true, decide_true, decide_false, Bool.not_true, Bool.not_false, false_implies, true_implies, and_true, true_and, Bool.false_eq_true, Bool.true_eq_false, implies_true, Bool.not_not, Classical.not_not, go_sem, Int.reduceToNat, List.take_nil, Nat.zero_mul, Nat.reduceEqDiff, Nat.reduceAdd, Nat.reduceLT, Nat.reduceLeDiff, Nat.reduceMul, ↓reduceIte, reduceCtorEq])
        | (refine spec_l20Rd_pick_ (Rdr.of (τ := [_, _])) hC (by omega) 10 (by omega) fun a ha1 ha2 _ => ?_; simp only [not_true_eq_false, not_false_eq_true, decide_true, decide_false, Bool.not_true, Bool.not_false, false_implies, true_implies, and_true, true_and, Bool.false_eq_true, Bool.true_eq_false, implies_true, Bool.not_not, Classical.not_not, go_sem, Int.reduceToNat, List.take_nil, Nat.zero_mul, Nat.reduceEqDiff, Nat.reduceAdd, Nat.reduceLT, Nat.reduceLeDiff, Nat.reduceMul, ↓reduceIte, reduceCtorEq])
        | (refine spec_l20Rd_pick_ (Rdr.of (τ := [_, _, _])) hC (by omega) 10 (by omega) fun a ha1 ha2 _ => ?_; simp only [not_true_eq_false, not_false_eq_true, decide_true, decide_false, Bool.not_true, Bool.not_false, false_implies, true_implies, and_true, true_and, Bool.false_eq_true, Bool.true_eq_false, implies_true, Bool.not_not, Classical.not_not, go_sem, Int.reduceToNat, List.take_nil, Nat.zero_mul, Nat.reduceEqDiff, Nat.reduceAdd, Nat.reduceLT, Nat.reduceLeDiff, Nat.reduceMul, ↓reduceIte, reduceCtorEq])
        | (refine spec_l20Rd_pick_ (Rdr.of (τ := [_])) hC (by omega) 5 (by omega) fun b hb1 hb2 _ => ?_; obtain ⟨P, hP, eP⟩ := rd_per a b (by omega) (by omega); simp only [eP, not_true_eq_false, not_false_eq_true, decide_true, decide_false, Bool.not_true, Bool.not_false, false_implies, true_implies, and_true, true_and, Bool.false_eq_true, Bool.true_eq_false, implies_true, Bool.not_not, Classical.not_not, go_sem, Int.reduceToNat, List.take_nil, Nat.zero_mul, Nat.reduceEqDiff, Nat.reduceAdd, Nat.reduceLT, Nat.reduceLeDiff, Nat.reduceMul, ↓reduceIte, reduceCtorEq])
        | (refine spec_l20Rd_pick_ (Rdr.of (τ := [_, _])) hC (by omega) 5 (by omega) fun b hb1 hb2 _ => ?_; obtain ⟨P, hP, eP⟩ := rd_per a b (by omega) (by omega); simp only [eP, not_true_eq_false, not_false_eq_true, decide_true, decide_false, Bool.not_true, Bool.not_false, false_implies, true_implies, and_true, true_and, Bool.false_eq_true, Bool.true_eq_false, implies_true, Bool.not_not, Classical.not_not, go_sem, Int.reduceToNat, List.take_nil, Nat.zero_mul, Nat.reduceEqDiff, Nat.reduceAdd, Nat.reduceLT, Nat.reduceLeDiff, Nat.reduceMul, ↓reduceIte, reduceCtorEq])
        | (refine spec_l20Rd_pick_ (Rdr.of (τ := [_, _, _])) hC (by omega) 5 (by omega) fun b hb1 hb2 _ => ?_; obtain ⟨P, hP, eP⟩ := rd_per a b (by omega) (by omega); simp only [eP, not_true_eq_false, not_false_eq_true, decide_true, decide_false, Bool.not_true, Bool.not_false, false_implies, true_implies, and_true, true_and, Bool.false_eq_true, Bool.true_eq_false, implies_true, Bool.not_not, Classical.not_not, go_sem, Int.reduceToNat, List.take_nil, Nat.zero_mul, Nat.reduceEqDiff, Nat.reduceAdd, Nat.reduceLT, Nat.reduceLeDiff, Nat.reduceMul, ↓reduceIte, reduceCtorEq])
        | (refine spec_l20Rd_pick_ (Rdr.of (τ := [_])) hC (by omega) 2 (by omega) fun d hd1 hd2 _ => ?_; simp only [eP, not_true_eq_false, not_false_eq_true, decide_true, decide_false, Bool.not_true, Bool.not_false, false_implies, true_implies, and_true, true_and, Bool.false_eq_true, Bool.true_eq_false, implies_true, Bool.not_not, Classical.not_not, go_sem, Int.reduceToNat, List.take_nil, Nat.zero_mul, Nat.reduceEqDiff, Nat.reduceAdd, Nat.reduceLT, Nat.reduceLeDiff, Nat.reduceMul, ↓reduceIte, reduceCtorEq])
        | (refine spec_l20Rd_pick_ (Rdr.of (τ := [_, _])) hC (by omega) 2 (by omega) fun d hd1 hd2 _ => ?_; simp only [eP, not_true_eq_false, not_false_eq_true, decide_true, decide_false, Bool.not_true, Bool.not_false, false_implies, true_implies, and_true, true_and, Bool.false_eq_true, Bool.true_eq_false, implies_true, Bool.not_not, Classical.not_not, go_sem, Int.reduceToNat, List.take_nil, Nat.zero_mul, Nat.reduceEqDiff, Nat.reduceAdd, Nat.reduceLT, Nat.reduceLeDiff, Nat.reduceMul, ↓reduceIte, reduceCtorEq])
        | (refine spec_l20Rd_pick_ (Rdr.of (τ := [_, _, _])) hC (by omega) 2 (by omega) fun d hd1 hd2 _ => ?_; simp only [eP, not_true_eq_false, not_false_eq_true, decide_true, decide_false, Bool.not_true, Bool.not_false, false_implies, true_implies, and_true, true_and, Bool.false_eq_true, Bool.true_eq_false, implies_true, Bool.not_not, Classical.not_not, go_sem, Int.reduceToNat, List.take_nil, Nat.zero_mul, Nat.reduceEqDiff, Nat.reduceAdd, Nat.reduceLT, Nat.reduceLeDiff, Nat.reduceMul, ↓reduceIte, reduceCtorEq])
        | exact kJ_intro (P, decide (d = 0), q + 1 + 1 + 1) ⟨by simp only; omega, by simp only; omega⟩ (Wk.pick [0, 1, 2, 3])
        | exact kJ_intro (P, decide (d = 0), q + 1 + 1 + 1) ⟨by simp only; omega, by simp only; omega⟩ (Wk.pick [0, 1, 2, 4])
        | refine ⟨?_, ?_⟩
    · rintro ⟨P, v, q'⟩ ⟨⟨hP1, hP2⟩, hq3, hq4⟩
      simp only at hP1 hP2 hq3 hq4
      simp only [not_true_eq_false, not_false_eq_true, decide_true, decide_false, Bool.not_true, Bool.not_false, false_implies, true_implies, and_true, true_and, Bool.false_eq_true, Bool.true_eq_false, implies_true, Bool.not_not, Classical.not_not, go_sem, Int.reduceToNat, List.take_nil, Nat.zero_mul, Nat.reduceEqDiff, Nat.reduceAdd, Nat.reduceLT, Nat.reduceLeDiff, Nat.reduceMul, ↓reduceIte, reduceCtorEq]
      refine spec_l20Rd_pick_ (Rdr.of (τ := [_, _])) hC (by omega) _ (by split <;> omega) fun r h1 h2 _ => ?_
      have hmn : 1 ≤ (if P < 3 then P else 3) ∧ (if P < 3 then P else 3) ≤ P ∧ (if P < 3 then P else 3) ≤ 3 := by split <;> omega
      have hr := h2 (by omega)
      generalize (if P < 3 then P else 3) = mn at *
      have hmem : ∀ (t : MTask), t.ok → ∀ u ∈ L ++ [t], u.ok := fun t ht u hu => by
        rcases List.mem_append.1 hu with hu | hu
        · exact hL u hu
        · rw [List.mem_singleton.1 hu]; exact ht
      have el : ∀ t : MTask, (L ++ [t]).length = L.length + 1 := fun t => by simp
      simp only [not_true_eq_false, not_false_eq_true, decide_true, decide_false, Bool.not_true, Bool.not_false, false_implies, true_implies, and_true, true_and, Bool.false_eq_true, Bool.true_eq_false, implies_true, Bool.not_not, Classical.not_not, go_sem, Int.reduceToNat, List.take_nil, Nat.zero_mul, Nat.reduceEqDiff, Nat.reduceAdd, Nat.reduceLT, Nat.reduceLeDiff, Nat.reduceMul, ↓reduceIte, reduceCtorEq]
      refine ⟨by omega, ?_⟩
      cases v
      · simp only [lenM, takeM, appM, not_true_eq_false, not_false_eq_true, decide_true, decide_false, Bool.not_true, Bool.not_false, false_implies, true_implies, and_true, true_and, Bool.false_eq_true, Bool.true_eq_false, implies_true, Bool.not_not, Classical.not_not, go_sem, Int.reduceToNat, List.take_nil, Nat.zero_mul, Nat.reduceEqDiff, Nat.reduceAdd, Nat.reduceLT, Nat.reduceLeDiff, Nat.reduceMul, ↓reduceIte, reduceCtorEq]
        refine ⟨by omega, fun cap' hcap => ⟨by omega, (L ++ [⟨1 + r, 1 + r, P, false⟩], cap', k - 1, q' + 1), ⟨⟨by simp only [el]; omega, hmem _ (by unfold MTask.ok; simp only; exact ⟨by omega, by omega, by omega, fun _ => trivial⟩), by simp only [el]; omega⟩, by simp only; omega⟩, ?_⟩⟩
        simp only [el]
        exact Wk.pick [0, 1, 5]
      · simp only [not_true_eq_false, not_false_eq_true, decide_true, decide_false, Bool.not_true, Bool.not_false, false_implies, true_implies, and_true, true_and, Bool.false_eq_true, Bool.true_eq_false, implies_true, Bool.not_not, Classical.not_not, go_sem, Int.reduceToNat, List.take_nil, Nat.zero_mul, Nat.reduceEqDiff, Nat.reduceAdd, Nat.reduceLT, Nat.reduceLeDiff, Nat.reduceMul, ↓reduceIte, reduceCtorEq]
        refine spec_l20Rd_pick_ (Rdr.of (τ := [_, _])) hC (by omega) _ (by omega) fun r2 g1 g2 _ => ?_
        have g2 := g2 (by omega)
        have hmn2 : 1 + r ≤ (if 1 + r + r2 < P then 1 + r + r2 else P) ∧ (if 1 + r + r2 < P then 1 + r + r2 else P) ≤ P := by split <;> omega
        simp only [lenM, takeM, appM, not_true_eq_false, not_false_eq_true, decide_true, decide_false, Bool.not_true, Bool.not_false, false_implies, true_implies, and_true, true_and, Bool.false_eq_true, Bool.true_eq_false, implies_true, Bool.not_not, Classical.not_not, go_sem, Int.reduceToNat, List.take_nil, Nat.zero_mul, Nat.reduceEqDiff, Nat.reduceAdd, Nat.reduceLT, Nat.reduceLeDiff, Nat.reduceMul, ↓reduceIte, reduceCtorEq]
        generalize (if 1 + r + r2 < P then 1 + r + r2 else P) = h at *
        refine ⟨by omega, by omega, fun cap' hcap => ⟨by omega, (L ++ [⟨1 + r, h, P, true⟩], cap', k - 1, q' + 1 + 1), ⟨⟨by simp only [el]; omega, hmem _ (by unfold MTask.ok; simp only; exact ⟨by omega, by omega, by omega, fun h => by simp at h⟩), by simp only [el]; omega⟩, by simp only; omega⟩, ?_⟩⟩
        simp only [el]
        exact Wk.pick [0, 1, 5]
  · refine seq_join (fun i : List MTask × Nat × Int => ⟨[(5, .sl 2 0 i.1.length i.2.1)], rdr B c i.2.2 ++ [.rw ty_impl_MixedTask (encMT.row i.1) (i.2.1 * 4)]⟩)
      (fun i => i.1.length ≤ 8 ∧ (∀ t ∈ i.1, wildM t) ∧ (n ≤ 0 → mixOk i.1) ∧ p ≤ i.2.2 ∧ i.2.2 ≤ p + 200) ?_ ?_
    · simp only [not_true_eq_false, not_false_eq_true, decide_true, decide_false, Bool.not_true, Bool.not_false, false_implies, true_implies, and_true, true_and, Bool.false_eq_true, Bool.true_eq_false, implies_true, Bool.not_not, Classical.not_not, go_sem, Int.reduceToNat, List.take_nil, Nat.zero_mul, Nat.reduceEqDiff, Nat.reduceAdd, Nat.reduceLT, Nat.reduceLeDiff, Nat.reduceMul, ↓reduceIte, reduceCtorEq]
      refine spec_l20Rd_odd_ (Rdr.of (τ := [_])) hC (by omega) _ (by omega) fun b q1 hb1 hb2 hb3 => ?_
      simp only [not_true_eq_false, not_false_eq_true, decide_true, decide_false, Bool.not_true, Bool.not_false, false_implies, true_implies, and_true, true_and, Bool.false_eq_true, Bool.true_eq_false, implies_true, Bool.not_not, Classical.not_not, go_sem, Int.reduceToNat, List.take_nil, Nat.zero_mul, Nat.reduceEqDiff, Nat.reduceAdd, Nat.reduceLT, Nat.reduceLeDiff, Nat.reduceMul, ↓reduceIte, reduceCtorEq]
      refine bc_of (fun hb => ?_) (fun hb => ?_)
      · have hn0 : ¬ n ≤ 0 := fun h => by rw [hb3 h] at hb; cases hb
        have el : ∀ (M : List MTask) (t : MTask), (M ++ [t]).length = M.length + 1 := fun M t => by simp
        have hmem : ∀ (M : List MTask) (t : MTask), (∀ u ∈ M, wildM u) → wildM t → ∀ u ∈ M ++ [t], wildM u := fun M t hM ht u hu => by
          rcases List.mem_append.1 hu with hu | hu
          · exact hM u hu
          · rw [List.mem_singleton.1 hu]; exact ht
        have hLw : ∀ u ∈ L, wildM u := fun u hu => ok_wildM (hL u hu)
        refine spec_l20Rd_pick_ (Rdr.of (τ := [_])) hC (by omega) _ (by omega) fun r4 h41 h42 _ => ?_
        simp only [not_true_eq_false, not_false_eq_true, decide_true, decide_false, Bool.not_true, Bool.not_false, false_implies, true_implies, and_true, true_and, Bool.false_eq_true, Bool.true_eq_false, implies_true, Bool.not_not, Classical.not_not, go_sem, Int.reduceToNat, List.take_nil, Nat.zero_mul, Nat.reduceEqDiff, Nat.reduceAdd, Nat.reduceLT, Nat.reduceLeDiff, Nat.reduceMul, ↓reduceIte, reduceCtorEq]
        refine ⟨fun h0 => ?_, fun h0 => ?_⟩
        · refine loop_intro (fun i : List MTask × Nat => ⟨[(0, .p 1 0), (5, .sl 2 0 i.1.length i.2)], rdr B c (q1 + 1) ++ [.rw ty_impl_MixedTask (encMT.row i.1) (i.2 * 4)]⟩)
            (fun i => i.1.length ≤ 6 ∧ (∀ t ∈ i.1, wildM t) ∧ i.1.length ≤ i.2) (fun i => 6 - i.1.length) (L, cap) ⟨by simp only; omega, hLw, by simp only; omega⟩ (Wk.pick [0, 1, 2]) ?_
          rintro ⟨M, cm⟩ ⟨hl, hM, hcm⟩
          simp only at hl hM hcm
          simp only [l0_spec_l20Mixed, not_true_eq_false, not_false_eq_true, decide_true, decide_false, Bool.not_true, Bool.not_false, false_implies, true_implies, and_true, true_and, Bool.false_eq_true, Bool.true_eq_false, implies_true, Bool.not_not, Classical.not_not, go_sem, Int.reduceToNat, List.take_nil, Nat.zero_mul, Nat.reduceEqDiff, Nat.reduceAdd, Nat.reduceLT, Nat.reduceLeDiff, Nat.reduceMul, ↓reduceIte, reduceCtorEq]
          refine ⟨fun hk => ?_, fun hk => ?_⟩
          · simp only [lenM, takeM, appM, not_true_eq_false, not_false_eq_true, decide_true, decide_false, Bool.not_true, Bool.not_false, false_implies, true_implies, and_true, true_and, Bool.false_eq_true, Bool.true_eq_false, implies_true, Bool.not_not, Classical.not_not, go_sem, Int.reduceToNat, List.take_nil, Nat.zero_mul, Nat.reduceEqDiff, Nat.reduceAdd, Nat.reduceLT, Nat.reduceLeDiff, Nat.reduceMul, ↓reduceIte, reduceCtorEq]
            refine ⟨by omega, fun cap' hcap => ⟨(M ++ [⟨1, 1, 12, false⟩], cap'), ⟨⟨by simp only [el]; omega, hmem _ _ hM (by unfold wildM; simp only; omega), by simp only [el]; omega⟩, by simp only [el]; omega⟩, ?_⟩⟩
            simp only [el]
            exact Wk.pick [0, 1, 4]
          · refine spec_l20Rd_pick_ (Rdr.of (τ := [_, _])) hC (by omega) _ (by omega) fun r5 h51 h52 _ => ?_
            have h52 := h52 (by omega)
            rcases (show r5 = 0 ∨ r5 = 1 ∨ r5 = 2 ∨ r5 = 3 ∨ r5 = 4 ∨ r5 = 5 by omega) with rfl | rfl | rfl | rfl | rfl | rfl
            · simp only [Abs.win, List.drop_succ_cons, List.drop_zero, List.take_succ_cons, List.take_zero, Int.toNat_natCast, Int.reduceToNat, lenM, takeM, appM, not_true_eq_false, not_false_eq_true, decide_true, decide_false, Bool.not_true, Bool.not_false, false_implies, true_implies, and_true, true_and, Bool.false_eq_true, Bool.true_eq_false, implies_true, Bool.not_not, Classical.not_not, go_sem, Int.reduceToNat, List.take_nil, Nat.zero_mul, Nat.reduceEqDiff, Nat.reduceAdd, Nat.reduceLT, Nat.reduceLeDiff, Nat.reduceMul, ↓reduceIte, reduceCtorEq]
              refine ⟨by omega, by omega, fun cap' hcap => kJ_intro (M ++ [⟨0, 1, 4, false⟩], cap', q1 + 1 + 1) ⟨by simp only [el]; omega, hmem _ _ hM (by unfold wildM; simp only; omega), fun h => absurd h hn0, by simp only; omega⟩ ?_⟩
              simp only [el]
              exact Wk.pick [0, 1, 5]
            · simp only [Abs.win, List.drop_succ_cons, List.drop_zero, List.take_succ_cons, List.take_zero, Int.toNat_natCast, Int.reduceToNat, lenM, takeM, appM, not_true_eq_false, not_false_eq_true, decide_true, decide_false, Bool.not_true, Bool.not_false, false_implies, true_implies, and_true, true_and, Bool.false_eq_true, Bool.true_eq_false, implies_true, Bool.not_not, Classical.not_not, go_sem, Int.reduceToNat, List.take_nil, Nat.zero_mul, Nat.reduceEqDiff, Nat.reduceAdd, Nat.reduceLT, Nat.reduceLeDiff, Nat.reduceMul, ↓reduceIte, reduceCtorEq]
              refine ⟨by omega, by omega, fun cap' hcap => kJ_intro (M ++ [⟨2, 1, 4, true⟩], cap', q1 + 1 + 1) ⟨by simp only [el]; omega, hmem _ _ hM (by unfold wildM; simp only; omega), fun h => absurd h hn0, by simp only; omega⟩ ?_⟩
              simp only [el]
              exact Wk.pick [0, 1, 5]
            · simp only [Abs.win, List.drop_succ_cons, List.drop_zero, List.take_succ_cons, List.take_zero, Int.toNat_natCast, Int.reduceToNat, lenM, takeM, appM, not_true_eq_false, not_false_eq_true, decide_true, decide_false, Bool.not_true, Bool.not_false, false_implies, true_implies, and_true, true_and, Bool.false_eq_true, Bool.true_eq_false, implies_true, Bool.not_not, Classical.not_not, go_sem, Int.reduceToNat, List.take_nil, Nat.zero_mul, Nat.reduceEqDiff, Nat.reduceAdd, Nat.reduceLT, Nat.reduceLeDiff, Nat.reduceMul, ↓reduceIte, reduceCtorEq]
              refine ⟨by omega, by omega, fun cap' hcap => kJ_intro (M ++ [⟨1, 5, 4, true⟩], cap', q1 + 1 + 1) ⟨by simp only [el]; omega, hmem _ _ hM (by unfold wildM; simp only; omega), fun h => absurd h hn0, by simp only; omega⟩ ?_⟩
              simp only [el]
              exact Wk.pick [0, 1, 5]
            · simp only [Abs.win, List.drop_succ_cons, List.drop_zero, List.take_succ_cons, List.take_zero, Int.toNat_natCast, Int.reduceToNat, lenM, takeM, appM, not_true_eq_false, not_false_eq_true, decide_true, decide_false, Bool.not_true, Bool.not_false, false_implies, true_implies, and_true, true_and, Bool.false_eq_true, Bool.true_eq_false, implies_true, Bool.not_not, Classical.not_not, go_sem, Int.reduceToNat, List.take_nil, Nat.zero_mul, Nat.reduceEqDiff, Nat.reduceAdd, Nat.reduceLT, Nat.reduceLeDiff, Nat.reduceMul, ↓reduceIte, reduceCtorEq]
              refine ⟨by omega, by omega, fun cap' hcap => kJ_intro (M ++ [⟨1, 2, 4, false⟩], cap', q1 + 1 + 1) ⟨by simp only [el]; omega, hmem _ _ hM (by unfold wildM; simp only; omega), fun h => absurd h hn0, by simp only; omega⟩ ?_⟩
              simp only [el]
              exact Wk.pick [0, 1, 5]
            · simp only [Abs.win, List.drop_succ_cons, List.drop_zero, List.take_succ_cons, List.take_zero, Int.toNat_natCast, Int.reduceToNat, lenM, takeM, appM, not_true_eq_false, not_false_eq_true, decide_true, decide_false, Bool.not_true, Bool.not_false, false_implies, true_implies, and_true, true_and, Bool.false_eq_true, Bool.true_eq_false, implies_true, Bool.not_not, Classical.not_not, go_sem, Int.reduceToNat, List.take_nil, Nat.zero_mul, Nat.reduceEqDiff, Nat.reduceAdd, Nat.reduceLT, Nat.reduceLeDiff, Nat.reduceMul, ↓reduceIte, reduceCtorEq]
              refine ⟨by omega, by omega, fun cap' hcap => kJ_intro (M ++ [⟨1, 1, 13, false⟩], cap', q1 + 1 + 1) ⟨by simp only [el]; omega, hmem _ _ hM (by unfold wildM; simp only; omega), fun h => absurd h hn0, by simp only; omega⟩ ?_⟩
              simp only [el]
              exact Wk.pick [0, 1, 5]
            · simp only [Abs.win, List.drop_succ_cons, List.drop_zero, List.take_succ_cons, List.take_zero, Int.toNat_natCast, Int.reduceToNat, lenM, takeM, appM, not_true_eq_false, not_false_eq_true, decide_true, decide_false, Bool.not_true, Bool.not_false, false_implies, true_implies, and_true, true_and, Bool.false_eq_true, Bool.true_eq_false, implies_true, Bool.not_not, Classical.not_not, go_sem, Int.reduceToNat, List.take_nil, Nat.zero_mul, Nat.reduceEqDiff, Nat.reduceAdd, Nat.reduceLT, Nat.reduceLeDiff, Nat.reduceMul, ↓reduceIte, reduceCtorEq]
              refine ⟨by omega, by omega, fun cap' hcap => kJ_intro (M ++ [⟨1, 1, 4, false⟩], cap', q1 + 1 + 1) ⟨by simp only [el]; omega, hmem _ _ hM (by unfold wildM; simp only; omega), fun h => absurd h hn0, by simp only; omega⟩ ?_⟩
              simp only [el]
              exact Wk.pick [0, 1, 5]
        · refine spec_l20Rd_pick_ (Rdr.of (τ := [_, _])) hC (by omega) _ (by omega) fun r5 h51 h52 _ => ?_
          have h52 := h52 (by omega)
          have hM := hLw
          rcases (show r5 = 0 ∨ r5 = 1 ∨ r5 = 2 ∨ r5 = 3 ∨ r5 = 4 ∨ r5 = 5 by omega) with rfl | rfl | rfl | rfl | rfl | rfl
          · simp only [Abs.win, List.drop_succ_cons, List.drop_zero, List.take_succ_cons, List.take_zero, Int.toNat_natCast, Int.reduceToNat, lenM, takeM, appM, not_true_eq_false, not_false_eq_true, decide_true, decide_false, Bool.not_true, Bool.not_false, false_implies, true_implies, and_true, true_and, Bool.false_eq_true, Bool.true_eq_false, implies_true, Bool.not_not, Classical.not_not, go_sem, Int.reduceToNat, List.take_nil, Nat.zero_mul, Nat.reduceEqDiff, Nat.reduceAdd, Nat.reduceLT, Nat.reduceLeDiff, Nat.reduceMul, ↓reduceIte, reduceCtorEq]
            refine ⟨by omega, by omega, fun cap' hcap => kJ_intro (L ++ [⟨0, 1, 4, false⟩], cap', q1 + 1 + 1) ⟨by simp only [el]; omega, hmem _ _ hM (by unfold wildM; simp only; omega), fun h => absurd h hn0, by simp only; omega⟩ ?_⟩
            simp only [el]
            exact Wk.pick [0, 1, 5]
          · simp only [Abs.win, List.drop_succ_cons, List.drop_zero, List.take_succ_cons, List.take_zero, Int.toNat_natCast, Int.reduceToNat, lenM, takeM, appM, not_true_eq_false, not_false_eq_true, decide_true, decide_false, Bool.not_true, Bool.not_false, false_implies, true_implies, and_true, true_and, Bool.false_eq_true, Bool.true_eq_false, implies_true, Bool.not_not, Classical.not_not, go_sem, Int.reduceToNat, List.take_nil, Nat.zero_mul, Nat.reduceEqDiff, Nat.reduceAdd, Nat.reduceLT, Nat.reduceLeDiff, Nat.reduceMul, ↓reduceIte, reduceCtorEq]
            refine ⟨by omega, by omega, fun cap' hcap => kJ_intro (L ++ [⟨2, 1, 4, true⟩], cap', q1 + 1 + 1) ⟨by simp only [el]; omega, hmem _ _ hM (by unfold wildM; simp only; omega), fun h => absurd h hn0, by simp only; omega⟩ ?_⟩
            simp only [el]
            exact Wk.pick [0, 1, 5]
          · simp only [Abs.win, List.drop_succ_cons, List.drop_zero, List.take_succ_cons, List.take_zero, Int.toNat_natCast, Int.reduceToNat, lenM, takeM, appM, not_true_eq_false, not_false_eq_true, decide_true, decide_false, Bool.not_true, Bool.not_false, false_implies, true_implies, and_true, true_and, Bool.false_eq_true, Bool.true_eq_false, implies_true, Bool.not_not, Classical.not_not, go_sem, Int.reduceToNat, List.take_nil, Nat.zero_mul, Nat.reduceEqDiff, Nat.reduceAdd, Nat.reduceLT, Nat.reduceLeDiff, Nat.reduceMul, ↓reduceIte, reduceCtorEq]
            refine ⟨by omega, by omega, fun cap' hcap => kJ_intro (L ++ [⟨1, 5, 4, true⟩], cap', q1 + 1 + 1) ⟨by simp only [el]; omega, hmem _ _ hM (by unfold wildM; simp only; omega), fun h => absurd h hn0, by simp only; omega⟩ ?_⟩
            simp only [el]
            exact Wk.pick [0, 1, 5]
          · simp only [Abs.win, List.drop_succ_cons, List.drop_zero, List.take_succ_cons, List.take_zero, Int.toNat_natCast, Int.reduceToNat, lenM, takeM, appM, not_true_eq_false, not_false_eq_true, decide_true, decide_false, Bool.not_true, Bool.not_false, false_implies, true_implies, and_true, true_and, Bool.false_eq_true, Bool.true_eq_false, implies_true, Bool.not_not, Classical.not_not, go_sem, Int.reduceToNat, List.take_nil, Nat.zero_mul, Nat.reduceEqDiff, Nat.reduceAdd, Nat.reduceLT, Nat.reduceLeDiff, Nat.reduceMul, ↓reduceIte, reduceCtorEq]
            refine ⟨by omega, by omega, fun cap' hcap => kJ_intro (L ++ [⟨1, 2, 4, false⟩], cap', q1 + 1 + 1) ⟨by simp only [el]; omega, hmem _ _ hM (by unfold wildM; simp only; omega), fun h => absurd h hn0, by simp only; omega⟩ ?_⟩
            simp only [el]
            exact Wk.pick [0, 1, 5]
          · simp only [Abs.win, List.drop_succ_cons, List.drop_zero, List.take_succ_cons, List.take_zero, Int.toNat_natCast, Int.reduceToNat, lenM, takeM, appM, not_true_eq_false, not_false_eq_true, decide_true, decide_false, Bool.not_true, Bool.not_false, false_implies, true_implies, and_true, true_and, Bool.false_eq_true, Bool.true_eq_false, implies_true, Bool.not_not, Classical.not_not, go_sem, Int.reduceToNat, List.take_nil, Nat.zero_mul, Nat.reduceEqDiff, Nat.reduceAdd, Nat.reduceLT, Nat.reduceLeDiff, Nat.reduceMul, ↓reduceIte, reduceCtorEq]
            refine ⟨by omega, by omega, fun cap' hcap => kJ_intro (L ++ [⟨1, 1, 13, false⟩], cap', q1 + 1 + 1) ⟨by simp only [el]; omega, hmem _ _ hM (by unfold wildM; simp only; omega), fun h => absurd h hn0, by simp only; omega⟩ ?_⟩
            simp only [el]
            exact Wk.pick [0, 1, 5]
          · simp only [Abs.win, List.drop_succ_cons, List.drop_zero, List.take_succ_cons, List.take_zero, Int.toNat_natCast, Int.reduceToNat, lenM, takeM, appM, not_true_eq_false, not_false_eq_true, decide_true, decide_false, Bool.not_true, Bool.not_false, false_implies, true_implies, and_true, true_and, Bool.false_eq_true, Bool.true_eq_false, implies_true, Bool.not_not, Classical.not_not, go_sem, Int.reduceToNat, List.take_nil, Nat.zero_mul, Nat.reduceEqDiff, Nat.reduceAdd, Nat.reduceLT, Nat.reduceLeDiff, Nat.reduceMul, ↓reduceIte, reduceCtorEq]
            refine ⟨by omega, by omega, fun cap' hcap => kJ_intro (L ++ [⟨1, 1, 4, false⟩], cap', q1 + 1 + 1) ⟨by simp only [el]; omega, hmem _ _ hM (by unfold wildM; simp only; omega), fun h => absurd h hn0, by simp only; omega⟩ ?_⟩
            simp only [el]
            exact Wk.pick [0, 1, 5]
      · refine kJ_intro (L, cap, q1) ⟨by simp only; omega, fun t ht => ok_wildM (hL t ht), fun _ => ⟨by simp only; omega, hL⟩, by simp only; omega⟩ (Wk.pick [0, 1, 2])
    · rintro ⟨M, cm, q'⟩ ⟨hl, hM, hok, hq3, hq4⟩
      simp only at hl hM hok hq3 hq4
      simp only [not_true_eq_false, not_false_eq_true, decide_true, decide_false, Bool.not_true, Bool.not_false, false_implies, true_implies, and_true, true_and, Bool.false_eq_true, Bool.true_eq_false, implies_true, Bool.not_not, Classical.not_not, go_sem, Int.reduceToNat, List.take_nil, Nat.zero_mul, Nat.reduceEqDiff, Nat.reduceAdd, Nat.reduceLT, Nat.reduceLeDiff, Nat.reduceMul, ↓reduceIte, reduceCtorEq]
      exact Fin.plain ⟨q', _, rfl, ⟨hq3, hq4⟩, M, cm, rfl, rfl, hl, hM, hok⟩
end Go.Proofs.Ytmphblbpofnpaaa
