import Derived.Test.YtmphblbpofnpaaaD2
import Derived.Test.YtmphblbpofnpaaaE1
namespace Go.Proofs.Ytmphblbpofnpaaa
open Go.Abs Go.Ds
set_option linter.unusedSimpArgs false
set_option linter.unusedVariables false
set_option maxRecDepth 20000
def wildJ (j : Job) : Prop := (-1 ≤ j.T ∧ j.T ≤ 20) ∧ (-1 ≤ j.R ∧ j.R ≤ 200) ∧ (-1 ≤ j.D ∧ j.D ≤ 300) ∧ (0 ≤ j.E ∧ j.E ≤ 20)
def wild0 (S : List Task) (j : Job) : Prop := ((0 ≤ j.T ∧ j.T ≤ 5) ∧ (0 ≤ j.R ∧ j.R ≤ 100) ∧ (0 ≤ j.D ∧ j.D ≤ 120) ∧ (1 ≤ j.E ∧ j.E ≤ 8)) ∧ j.T < S.length ∧ j.E ≤ (gT S j.T).C
theorem wild0.wild {S : List Task} {j : Job} (h : wild0 S j) : wildJ j := by unfold wild0 at h; unfold wildJ; omega
theorem mem_app {α : Type} {P : α → Prop} {L : List α} {x : α} (h : ∀ y ∈ L, P y) (hx : P x) : ∀ y ∈ L ++ [x], P y := by
  intro y hy
  rcases List.mem_append.1 hy with hy | hy
  · exact h y hy
  · rw [List.mem_singleton.1 hy]; exact hx
theorem mem_set {α : Type} {P : α → Prop} {L : List α} {k : Nat} {x : α} (h : ∀ y ∈ L, P y) (hx : P x) : ∀ y ∈ L.set k x, P y := by
  intro y hy
  rcases List.mem_or_eq_of_mem_set hy with hy | rfl
  · exact h y hy
  · exact hx
def JobsP (S : List Task) (n : Int) (s : Nat) (p : Int) (x : AV) (p' : Int) (τ : List AB) : Prop := (p ≤ p' ∧ p' ≤ p + 3000) ∧ ∃ (L : List Job) (cap : Nat), x = .sl s 0 L.length cap ∧ τ = [.rw ty_impl_Job (encJob.row L) (cap * 4)] ∧ L.length ≤ 62 ∧ (∀ j ∈ L, wildJ j) ∧ (n ≤ 0 → ∀ j ∈ L, wild0 S j)
theorem spec_l20Jobs0 (B : List Nat) (p : Int) (hC : Code B) (hp : 0 ≤ p ∧ p ≤ 3600000000000) (S : List Task) (hS : setOk S) (n : Int) (hn : n ≤ 1000) (c c2 : Nat) :
    CallWp Try.prog n_spec_l20Jobs [.p 1 0, .sl 2 0 S.length c2, .i .i64 n] (rdr B c p ++ [.ro (encTask.row S)]) (fun x σ' => ∃ p' τ, σ' = (rdr B c p' ++ [.ro (encTask.row S)]) ++ τ ∧ JobsP S n 3 p x p' τ) := by
  have h5 := hS.1
  refine call_spec_l20Jobs (by simp) ?_
  simp only [c_spec_l20Jobs, go_sem, Int.reduceToNat, List.take_nil, Nat.zero_mul, Nat.reduceEqDiff, Nat.reduceAdd, Nat.reduceLT, Nat.reduceLeDiff, Nat.reduceMul, ↓reduceIte, reduceCtorEq]
  refine ⟨by omega, ?_⟩
  rw [show rep S.length [AV.i .i64 0] = encInt.row (List.replicate S.length 0) from encInt.rep 0 _]
  refine spec_l20Rd_pick_ (Rdr.of (τ := [_, _, _])) hC (by omega) _ (by omega) fun dense h11 h12 _ => ?_
  simp only [go_sem, Int.reduceToNat, List.take_nil, Nat.zero_mul, Nat.reduceEqDiff, Nat.reduceAdd, Nat.reduceLT, Nat.reduceLeDiff, Nat.reduceMul, ↓reduceIte, reduceCtorEq]
  refine loop_intro (fun i : List Job × Nat × List Int × Int × Nat => ⟨[(0, .p 1 0), (1, .sl 2 0 S.length c2), (2, .i .i64 n), (7, .sl 3 0 i.1.length i.2.1), (8, .sl 4 0 S.length S.length), (9, .i .i64 dense), (10, .i .i64 i.2.2.2.2)], rdr B c i.2.2.2.1 ++ [.ro (encTask.row S), .rw ty_impl_Job (encJob.row i.1) (i.2.1 * 4), .rw ty_int (encInt.row i.2.2.1) S.length]⟩)
    (fun i => i.1.length ≤ 60 ∧ (∀ j ∈ i.1, wild0 S j) ∧ i.2.2.1.length = S.length ∧ (∀ x ∈ i.2.2.1, 0 ≤ x ∧ x ≤ 200) ∧ (p ≤ i.2.2.2.1 ∧ i.2.2.2.1 ≤ p + 1 + 20 * i.2.2.2.2) ∧ i.2.2.2.2 ≤ 100) (fun i => 100 - i.2.2.2.2) ([], 0, List.replicate S.length 0, p + 1, 0) ?_ (Wk.pick [0, 1, 2, 3, 4]) ?_
  · simp only [List.length_nil, List.length_replicate]
    exact ⟨by omega, by simp, trivial, fun x hx => by rw [(List.mem_replicate.1 hx).2]; omega, by omega, by omega⟩
  rintro ⟨L, cap, N, q, t⟩ ⟨hL, hLw, hN, hNw, hq, ht⟩
  simp only at hL hLw hN hNw hq ht
  simp only [l2_spec_l20Jobs, go_sem, Int.reduceToNat, List.take_nil, Nat.zero_mul, Nat.reduceEqDiff, Nat.reduceAdd, Nat.reduceLT, Nat.reduceLeDiff, Nat.reduceMul, ↓reduceIte, reduceCtorEq]
  refine ⟨fun hlt => ?_, fun hlt => ?_⟩
  · refine loop_intro (fun i : List Job × Nat × List Int × Int × Nat => ⟨[(0, .p 1 0), (1, .sl 2 0 S.length c2), (2, .i .i64 n), (7, .sl 3 0 i.1.length i.2.1), (8, .sl 4 0 S.length S.length), (9, .i .i64 dense), (10, .i .i64 t), (11, .i .i64 i.2.2.2.2)], rdr B c i.2.2.2.1 ++ [.ro (encTask.row S), .rw ty_impl_Job (encJob.row i.1) (i.2.1 * 4), .rw ty_int (encInt.row i.2.2.1) S.length]⟩)
      (fun i => i.1.length ≤ 60 ∧ (∀ j ∈ i.1, wild0 S j) ∧ i.2.2.1.length = S.length ∧ (∀ x ∈ i.2.2.1, 0 ≤ x ∧ x ≤ 200) ∧ (q ≤ i.2.2.2.1 ∧ i.2.2.2.1 ≤ q + 3 * i.2.2.2.2) ∧ i.2.2.2.2 ≤ S.length) (fun i => S.length - i.2.2.2.2) (L, cap, N, q, 0) (by simp only; exact ⟨hL, hLw, hN, hNw, by omega, by omega⟩) (Wk.pick [0, 1, 2, 3, 4]) ?_
    rintro ⟨L, cap, N, q2, k⟩ ⟨hL, hLw, hN, hNw, hq2, hk⟩
    simp only at hL hLw hN hNw hq2 hk
    simp only [l1_spec_l20Jobs, go_sem, Int.reduceToNat, List.take_nil, Nat.zero_mul, Nat.reduceEqDiff, Nat.reduceAdd, Nat.reduceLT, Nat.reduceLeDiff, Nat.reduceMul, ↓reduceIte, reduceCtorEq]
    refine ⟨fun hkl => ?_, fun hkl => ?_⟩
    · have hkN : k < N.length := by omega
      have hw := hS.2 _ (List.getElem_mem hkl)
      unfold Task.ok at hw
      refine seq_join (fun i : Bool × Int => ⟨[(0, .p 1 0), (1, .sl 2 0 S.length c2), (2, .i .i64 n), (7, .sl 3 0 L.length cap), (8, .sl 4 0 S.length S.length), (9, .i .i64 dense), (10, .i .i64 t), (11, .i .i64 k), (52, .b i.1)], rdr B c i.2 ++ [.ro (encTask.row S), .rw ty_impl_Job (encJob.row L) (cap * 4), .rw ty_int (encInt.row N) S.length]⟩)
        (fun i => (i.1 = false → L.length ≠ 60) ∧ q2 ≤ i.2 ∧ i.2 ≤ q2 + 1) ?_ ?_
      · simp only [hkN, hkl, go_sem, Int.reduceToNat, List.take_nil, Nat.zero_mul, Nat.reduceEqDiff, Nat.reduceAdd, Nat.reduceLT, Nat.reduceLeDiff, Nat.reduceMul, ↓reduceIte, reduceCtorEq, lenT, rdT0, rdT1, rdT2, winT, takeT, appT, splT, splI, winI, lenI, rdI, takeI, appI]
        refine ⟨fun h1 => ⟨fun h2 => ⟨fun h3 => ⟨by omega, by omega, spec_l20Rd_pick_ (Rdr.of (τ := [_, _, _])) hC (by omega) _ (by omega) fun r4 h41 h42 _ => ?_⟩, fun h3 => kJ_intro (false, q2) (by simp only; exact ⟨fun _ => by omega, by omega⟩) ?_⟩, fun h2 => kJ_intro (true, q2) (by simp only; exact ⟨fun h => absurd h (by decide), by omega⟩) ?_⟩, fun h1 => kJ_intro (true, q2) (by simp only; exact ⟨fun h => absurd h (by decide), by omega⟩) ?_⟩
        · simp only [go_sem, Int.reduceToNat, List.take_nil, Nat.zero_mul, Nat.reduceEqDiff, Nat.reduceAdd, Nat.reduceLT, Nat.reduceLeDiff, Nat.reduceMul, ↓reduceIte, reduceCtorEq]
          exact kJ_intro (decide (1 < r4), q2 + 1) (by simp only; exact ⟨fun _ => by omega, by omega⟩) (Wk.pick [0, 1, 2, 3, 4])
        · simp only [h3, not_true_eq_false, not_false_eq_true, decide_true, decide_false, Bool.not_true, Bool.not_false, false_implies, true_implies, and_true, true_and, Bool.false_eq_true, Bool.true_eq_false, implies_true, Bool.not_not, Classical.not_not]; exact Wk.pick [0, 1, 2, 3, 4]
        · simp only [h2, not_true_eq_false, not_false_eq_true, decide_true, decide_false, Bool.not_true, Bool.not_false, false_implies, true_implies, and_true, true_and, Bool.false_eq_true, Bool.true_eq_false, implies_true, Bool.not_not, Classical.not_not]; exact Wk.pick [0, 1, 2, 3, 4]
        · simp only [h1, not_true_eq_false, not_false_eq_true, decide_true, decide_false, Bool.not_true, Bool.not_false, false_implies, true_implies, and_true, true_and, Bool.false_eq_true, Bool.true_eq_false, implies_true, Bool.not_not, Classical.not_not]; exact Wk.pick [0, 1, 2, 3, 4]
      · rintro ⟨b, q3⟩ ⟨hb1, hb2, hb3⟩
        simp only at hb1 hb2 hb3
        simp only [hkN, hkl, go_sem, Int.reduceToNat, List.take_nil, Nat.zero_mul, Nat.reduceEqDiff, Nat.reduceAdd, Nat.reduceLT, Nat.reduceLeDiff, Nat.reduceMul, ↓reduceIte, reduceCtorEq, lenT, rdT0, rdT1, rdT2, winT, takeT, appT, splT, splI, winI, lenI, rdI, takeI, appI]
        refine bc_of (fun hb => ⟨by omega, (L, cap, N, q3, k + 1), ⟨⟨hL, hLw, hN, hNw, by simp only; omega, by simp only; omega⟩, by simp only; omega⟩, Wk.pick [0, 1, 2, 3, 4]⟩) (fun hb => ?_)
        have hne := hb1 hb
        refine ⟨by omega, ?_⟩
        refine seq_join (fun i : Int × Int => ⟨[(0, .p 1 0), (1, .sl 2 0 S.length c2), (2, .i .i64 n), (7, .sl 3 0 L.length cap), (8, .sl 4 0 S.length S.length), (9, .i .i64 dense), (10, .i .i64 t), (11, .i .i64 k), (12, .i .i64 i.1)], rdr B c i.2 ++ [.ro (encTask.row S), .rw ty_impl_Job (encJob.row L) (cap * 4), .rw ty_int (encInt.row N) S.length]⟩)
          (fun i => ((1 ≤ i.1 ∧ i.1 ≤ 8) ∧ i.1 ≤ S[k].C) ∧ q3 ≤ i.2 ∧ i.2 ≤ q3 + 2) ?_ ?_
        · simp only [go_sem, Int.reduceToNat, List.take_nil, Nat.zero_mul, Nat.reduceEqDiff, Nat.reduceAdd, Nat.reduceLT, Nat.reduceLeDiff, Nat.reduceMul, ↓reduceIte, reduceCtorEq]
          refine spec_l20Rd_pick_ (Rdr.of (τ := [_, _, _])) hC (by omega) _ (by omega) fun r5 h51 h52 _ => ?_
          simp only [go_sem, Int.reduceToNat, List.take_nil, Nat.zero_mul, Nat.reduceEqDiff, Nat.reduceAdd, Nat.reduceLT, Nat.reduceLeDiff, Nat.reduceMul, ↓reduceIte, reduceCtorEq]
          refine ⟨fun h0 => ?_, fun h0 => kJ_intro (S[k].C, q3 + 1) (by simp only; omega) (Wk.pick [0, 1, 2, 3, 4])⟩
          refine spec_l20Rd_pick_ (Rdr.of (τ := [_, _, _])) hC (by omega) _ (by omega) fun r6 h61 h62 _ => ?_
          have h62' := h62 (by omega)
          simp only [go_sem, Int.reduceToNat, List.take_nil, Nat.zero_mul, Nat.reduceEqDiff, Nat.reduceAdd, Nat.reduceLT, Nat.reduceLeDiff, Nat.reduceMul, ↓reduceIte, reduceCtorEq]
          exact ⟨by omega, kJ_intro (1 + r6, q3 + 1 + 1) (by simp only; omega) (Wk.pick [0, 1, 2, 3, 4])⟩
        · rintro ⟨e, q4⟩ ⟨he1, he2, he3⟩
          simp only at he1 he2 he3
          simp only [hkN, hkl, lenJ, takeJ, appJ, go_sem, Int.reduceToNat, List.take_nil, Nat.zero_mul, Nat.reduceEqDiff, Nat.reduceAdd, Nat.reduceLT, Nat.reduceLeDiff, Nat.reduceMul, ↓reduceIte, reduceCtorEq, lenT, rdT0, rdT1, rdT2, winT, takeT, appT, splT, splI, winI, lenI, rdI, takeI, appI]
          refine ⟨by omega, by omega, by omega, fun cap' hcap' => ⟨by omega, by omega, by omega, by omega, (L ++ [⟨k, t, t + S[k].D, e⟩], cap', N.set k (t + S[k].P), q4, k + 1), ⟨⟨by simp only [List.length_append, List.length_cons, List.length_nil]; omega, mem_app hLw (by unfold wild0; simp only [gT_nat hkl]; omega), by simp only [List.length_set]; exact hN, mem_set hNw (by omega), by simp only; omega, by simp only; omega⟩, by simp only; omega⟩, Wk.pick [0, 1, 2, 6, 4]⟩⟩
    · exact ⟨by omega, (L, cap, N, q2, t + 1), ⟨⟨hL, hLw, hN, hNw, by simp only; omega, by simp only; omega⟩, by simp only; omega⟩, Wk.pick [0, 1, 2, 3, 4]⟩
  · refine seq_join (fun i : List Job × Nat × Int => ⟨[(7, .sl 3 0 i.1.length i.2.1)], rdr B c i.2.2 ++ [.ro (encTask.row S), .rw ty_impl_Job (encJob.row i.1) (i.2.1 * 4)]⟩)
      (fun i => i.1.length ≤ 62 ∧ (∀ j ∈ i.1, wildJ j) ∧ (n ≤ 0 → ∀ j ∈ i.1, wild0 S j) ∧ p ≤ i.2.2 ∧ i.2.2 ≤ p + 3000) ?_ ?_
    · simp only [go_sem, Int.reduceToNat, List.take_nil, Nat.zero_mul, Nat.reduceEqDiff, Nat.reduceAdd, Nat.reduceLT, Nat.reduceLeDiff, Nat.reduceMul, ↓reduceIte, reduceCtorEq]
      refine spec_l20Rd_odd_ (Rdr.of (τ := [_, _, _])) hC (by omega) _ (by omega) fun b q1 hb1 hb2 hb3 => ?_
      simp only [go_sem, Int.reduceToNat, List.take_nil, Nat.zero_mul, Nat.reduceEqDiff, Nat.reduceAdd, Nat.reduceLT, Nat.reduceLeDiff, Nat.reduceMul, ↓reduceIte, reduceCtorEq]
      have keep : ∀ q', q1 ≤ q' → q' ≤ q1 + 1 → (L, cap, q').1.length ≤ 62 ∧ (∀ j ∈ (L, cap, q').1, wildJ j) ∧ (n ≤ 0 → ∀ j ∈ (L, cap, q').1, wild0 S j) ∧ p ≤ (L, cap, q').2.2 ∧ (L, cap, q').2.2 ≤ p + 3000 := fun q' h1 h2 => by simp only; exact ⟨by omega, fun j hj => (hLw j hj).wild, fun _ => hLw, by omega, by omega⟩
      refine bc_of (fun hb => ?_) (fun hb => ?_)
      · have hn0 : ¬ n ≤ 0 := fun h => by rw [hb3 h] at hb; cases hb
        refine ⟨fun hpos => ?_, fun h0 => kJ_intro (L, cap, q1) (keep q1 (by omega) (by omega)) (Wk.pick [0, 1, 2, 3])⟩
        refine spec_l20Rd_pick_ (Rdr.of (τ := [_, _, _])) hC (by omega) _ (by omega) fun r7 h71 h72 _ => ?_
        have h72' := h72 (by omega)
        have hr7 : r7.toNat < L.length := by omega
        have hw7 := hLw _ (List.getElem_mem hr7)
        unfold wild0 at hw7
        have hLw' : ∀ j ∈ L, wildJ j := fun j hj => (hLw j hj).wild
        simp only [go_sem, Int.reduceToNat, List.take_nil, Nat.zero_mul, Nat.reduceEqDiff, Nat.reduceAdd, Nat.reduceLT, Nat.reduceLeDiff, Nat.reduceMul, ↓reduceIte, reduceCtorEq]
        refine spec_l20Rd_pick_ (Rdr.of (τ := [_, _, _])) hC (by omega) _ (by omega) fun r8 h81 h82 _ => ?_
        simp only [go_sem, Int.reduceToNat, List.take_nil, Nat.zero_mul, Nat.reduceEqDiff, Nat.reduceAdd, Nat.reduceLT, Nat.reduceLeDiff, Nat.reduceMul, ↓reduceIte, reduceCtorEq]
        refine ⟨fun e0 => ?_, fun e0 => ⟨fun e1 => ?_, fun e1 => ⟨fun e2 => ?_, fun e2 => ⟨fun e3 => ?_, fun e3 => ⟨fun e4 => ?_, fun e4 => ?_⟩⟩⟩⟩⟩
        · refine spec_l20Rd_pick_ (Rdr.of (τ := [_, _, _, _])) hC (by omega) _ (by omega) fun r9 h91 h92 _ => ?_
          have h92' := h92 (by omega)
          obtain ⟨E, hE, eE⟩ := rd_int [-1, (S.length : Int)] r9.toNat (by simp; omega)
          simp only [List.map_cons, List.map_nil] at eE
          simp only [List.mem_cons, List.not_mem_nil, or_false] at hE
          simp only [eE, lenJ, rdJ1 hr7, rdJ2 hr7, winJ hr7, encJ, splJ0 hr7, splJ1 hr7, splJ2 hr7, splJ3 hr7, appJ, takeJ, go_sem, Int.reduceToNat, List.take_nil, Nat.zero_mul, Nat.reduceEqDiff, Nat.reduceAdd, Nat.reduceLT, Nat.reduceLeDiff, Nat.reduceMul, ↓reduceIte, reduceCtorEq]
          refine ⟨by omega, by omega, by omega, by omega, kJ_intro (L.set r7.toNat ⟨E, L[r7.toNat].R, L[r7.toNat].D, L[r7.toNat].E⟩, cap, q1 + 1 + 1 + 1) ⟨by simp only [List.length_set]; omega, mem_set hLw' (by unfold wildJ; simp only; omega), fun h => absurd h hn0, by simp only; omega, by simp only; omega⟩ (Wk.pick [0, 1, 2, 3])⟩
        · simp only [lenJ, rdJ1 hr7, rdJ2 hr7, winJ hr7, encJ, splJ0 hr7, splJ1 hr7, splJ2 hr7, splJ3 hr7, appJ, takeJ, go_sem, Int.reduceToNat, List.take_nil, Nat.zero_mul, Nat.reduceEqDiff, Nat.reduceAdd, Nat.reduceLT, Nat.reduceLeDiff, Nat.reduceMul, ↓reduceIte, reduceCtorEq]
          refine ⟨by omega, by omega, by omega, ⟨by omega, ?_⟩, ?_⟩
          · refine spec_l20Rd_pick_ (Rdr.of (τ := [_, _, _, _])) hC (by omega) _ (by omega) fun r9 h91 h92 _ => ?_
            have h92' := h92 (by omega)
            obtain ⟨E, hE, eE⟩ := rd_int [-1, 120, L[r7.toNat].R + 1] r9.toNat (by simp; omega)
            simp only [List.map_cons, List.map_nil] at eE
            simp only [List.mem_cons, List.not_mem_nil, or_false] at hE
            simp only [eE, lenJ, rdJ1 hr7, rdJ2 hr7, winJ hr7, encJ, splJ0 hr7, splJ1 hr7, splJ2 hr7, splJ3 hr7, appJ, takeJ, go_sem, Int.reduceToNat, List.take_nil, Nat.zero_mul, Nat.reduceEqDiff, Nat.reduceAdd, Nat.reduceLT, Nat.reduceLeDiff, Nat.reduceMul, ↓reduceIte, reduceCtorEq]
            exact ⟨by omega, by omega, by omega, by omega, by omega, kJ_intro (L.set r7.toNat ⟨L[r7.toNat].T, E, L[r7.toNat].D, L[r7.toNat].E⟩, cap, q1 + 1 + 1 + 1) ⟨by simp only [List.length_set]; omega, mem_set hLw' (by unfold wildJ; simp only; omega), fun h => absurd h hn0, by simp only; omega, by simp only; omega⟩ (Wk.pick [0, 1, 2, 3])⟩
          · refine spec_l20Rd_pick_ (Rdr.of (τ := [_, _, _])) hC (by omega) _ (by omega) fun r9 h91 h92 _ => ?_
            have h92' := h92 (by omega)
            obtain ⟨E, hE, eE⟩ := rd_int [-1, 120, L[r7.toNat].R + 1] r9.toNat (by simp; omega)
            simp only [List.map_cons, List.map_nil] at eE
            simp only [List.mem_cons, List.not_mem_nil, or_false] at hE
            simp only [eE, lenJ, rdJ1 hr7, rdJ2 hr7, winJ hr7, encJ, splJ0 hr7, splJ1 hr7, splJ2 hr7, splJ3 hr7, appJ, takeJ, go_sem, Int.reduceToNat, List.take_nil, Nat.zero_mul, Nat.reduceEqDiff, Nat.reduceAdd, Nat.reduceLT, Nat.reduceLeDiff, Nat.reduceMul, ↓reduceIte, reduceCtorEq]
            exact ⟨by omega, by omega, by omega, by omega, by omega, by omega, kJ_intro (L.set r7.toNat ⟨L[r7.toNat].T, E, L[r7.toNat].D, L[r7.toNat].E⟩, cap, q1 + 1 + 1 + 1) ⟨by simp only [List.length_set]; omega, mem_set hLw' (by unfold wildJ; simp only; omega), fun h => absurd h hn0, by simp only; omega, by simp only; omega⟩ (Wk.pick [0, 1, 2, 3])⟩
        · simp only [lenJ, rdJ1 hr7, rdJ2 hr7, winJ hr7, encJ, splJ0 hr7, splJ1 hr7, splJ2 hr7, splJ3 hr7, appJ, takeJ, go_sem, Int.reduceToNat, List.take_nil, Nat.zero_mul, Nat.reduceEqDiff, Nat.reduceAdd, Nat.reduceLT, Nat.reduceLeDiff, Nat.reduceMul, ↓reduceIte, reduceCtorEq]
          refine ⟨by omega, by omega, by omega, by omega, by omega, kJ_intro (L.set r7.toNat ⟨L[r7.toNat].T, L[r7.toNat].R, L[r7.toNat].D + 1, L[r7.toNat].E⟩, cap, q1 + 1 + 1) ⟨by simp only [List.length_set]; omega, mem_set hLw' (by unfold wildJ; simp only; omega), fun h => absurd h hn0, by simp only; omega, by simp only; omega⟩ (Wk.pick [0, 1, 2, 3])⟩
        · refine spec_l20Rd_pick_ (Rdr.of (τ := [_, _, _, _])) hC (by omega) _ (by omega) fun r9 h91 h92 _ => ?_
          have h92' := h92 (by omega)
          obtain ⟨E, hE, eE⟩ := rd_int [0, 9] r9.toNat (by simp; omega)
          simp only [List.map_cons, List.map_nil] at eE
          simp only [List.mem_cons, List.not_mem_nil, or_false] at hE
          simp only [eE, lenJ, rdJ1 hr7, rdJ2 hr7, winJ hr7, encJ, splJ0 hr7, splJ1 hr7, splJ2 hr7, splJ3 hr7, appJ, takeJ, go_sem, Int.reduceToNat, List.take_nil, Nat.zero_mul, Nat.reduceEqDiff, Nat.reduceAdd, Nat.reduceLT, Nat.reduceLeDiff, Nat.reduceMul, ↓reduceIte, reduceCtorEq]
          refine ⟨by omega, by omega, by omega, by omega, kJ_intro (L.set r7.toNat ⟨L[r7.toNat].T, L[r7.toNat].R, L[r7.toNat].D, E⟩, cap, q1 + 1 + 1 + 1) ⟨by simp only [List.length_set]; omega, mem_set hLw' (by unfold wildJ; simp only; omega), fun h => absurd h hn0, by simp only; omega, by simp only; omega⟩ (Wk.pick [0, 1, 2, 3])⟩
        · simp only [lenJ, rdJ1 hr7, rdJ2 hr7, winJ hr7, encJ, splJ0 hr7, splJ1 hr7, splJ2 hr7, splJ3 hr7, appJ, takeJ, go_sem, Int.reduceToNat, List.take_nil, Nat.zero_mul, Nat.reduceEqDiff, Nat.reduceAdd, Nat.reduceLT, Nat.reduceLeDiff, Nat.reduceMul, ↓reduceIte, reduceCtorEq]
          refine ⟨by omega, by omega, by omega, fun cap' hcap' => kJ_intro (L ++ [⟨L[r7.toNat].T, L[r7.toNat].R, L[r7.toNat].D, L[r7.toNat].E⟩], cap', q1 + 1 + 1) ⟨by simp only [List.length_append, List.length_cons, List.length_nil]; omega, mem_app hLw' (hLw' _ (List.getElem_mem hr7)), fun h => absurd h hn0, by simp only; omega, by simp only; omega⟩ (Wk.pick [0, 1, 2, 6])⟩
        · refine loop_intro (fun i : List Job × Nat => ⟨[(7, .sl 3 0 i.1.length i.2)], rdr B c (q1 + 1 + 1) ++ [.ro (encTask.row S), .rw ty_impl_Job (encJob.row i.1) (i.2 * 4)]⟩)
            (fun i => i.1.length ≤ 61 ∧ (∀ j ∈ i.1, wildJ j)) (fun i => 61 - i.1.length) (L, cap) (by simp only; exact ⟨by omega, hLw'⟩) (Wk.pick [0, 1, 2, 3]) ?_
          rintro ⟨L, cap⟩ ⟨hL, hLw⟩
          simp only at hL hLw
          simp only [l0_spec_l20Jobs, lenJ, appJ, takeJ, go_sem, Int.reduceToNat, List.take_nil, Nat.zero_mul, Nat.reduceEqDiff, Nat.reduceAdd, Nat.reduceLT, Nat.reduceLeDiff, Nat.reduceMul, ↓reduceIte, reduceCtorEq]
          refine ⟨fun h => ⟨by omega, fun cap' hcap' => ⟨(L ++ [⟨0, 119, 120, 1⟩], cap'), ⟨⟨by simp only [List.length_append, List.length_cons, List.length_nil]; omega, mem_app hLw (by unfold wildJ; simp only; omega)⟩, by simp only [List.length_append, List.length_cons, List.length_nil]; omega⟩, Wk.pick [0, 1, 2, 5]⟩⟩, fun h => kJ_intro (L, cap, q1 + 1 + 1) ⟨by simp only; omega, hLw, by simp only; omega, by simp only; omega⟩ (Wk.pick [0, 1, 2, 3])⟩
      · exact kJ_intro (L, cap, q1) (keep q1 (by omega) (by omega)) (Wk.pick [0, 1, 2, 3])
    · rintro ⟨L, cap, q⟩ ⟨hl, hJ, hJ0, hq1, hq2⟩
      simp only at hl hJ hJ0 hq1 hq2
      simp only [go_sem, Int.reduceToNat, List.take_nil, Nat.zero_mul, Nat.reduceEqDiff, Nat.reduceAdd, Nat.reduceLT, Nat.reduceLeDiff, Nat.reduceMul, ↓reduceIte, reduceCtorEq]
      exact Fin.plain ⟨q, _, rfl, ⟨hq1, hq2⟩, L, cap, rfl, rfl, hl, hJ, hJ0⟩
theorem spec_l20JobsC_ {σ : List AB} {n m o c : Nat} {B : List Nat} {p : Int} (h : Rdr ty_spec_l20Rd σ n B p m o c) (hC : Code B) (hp : 0 ≤ p ∧ p ≤ 3600000000000) {S : List Task} (hS : setOk S) {v : AV} (hv : (⟨v, S.length, encTask.row S⟩ : Sl).okx σ n)
    (k : Int) (hk : k ≤ 1000) {K : AV → List AB → Prop}
    (hK : ∀ (L : List Job) (cap : Nat) (p' : Int), p ≤ p' → p' ≤ p + 3000 → L.length ≤ 62 → (∀ j ∈ L, wildJ j) → (k ≤ 0 → ∀ j ∈ L, wild0 S j) → K (.sl σ.length 0 L.length cap) (σ.set n (.rw ty_spec_l20Rd [.sl m o B.length c, .i .i64 p'] 2) ++ [.rw ty_impl_Job (encJob.row L) (cap * 4)])) :
    CallWp Try.prog n_spec_l20Jobs [.p n 0, v, .i .i64 k] σ K := by
  refine call_rdr ty_spec_l20Rd h [⟨v, S.length, encTask.row S⟩] (by intro s hs; rw [List.mem_singleton.1 hs]; exact hv) (fun q => [.sl 2 0 S.length (q 2), .i .i64 k]) (JobsP S k 3 p) (fun q => spec_l20Jobs0 B p hC hp S hS k hk c (q 2)) ?_ (fun _ _ h => ⟨h.1, .inl rfl, trivial⟩) (fun _ => rfl) ?_
  · rintro x p' τ ⟨_, L, cap, rfl, rfl, _⟩; exact ⟨by simp [plainRw, encJob.row_flat], rfl⟩
  · rintro x p' τ ⟨⟨h1, h2⟩, L, cap, rfl, rfl, h3, h4, h5⟩
    exact hK L cap p' h1 h2 h3 h4 h5
theorem spec_l20Jobs_ {σ : List AB} {n m o c : Nat} {B : List Nat} {p : Int} (h : Rdr ty_spec_l20Rd σ n B p m o c) (hC : Code B) (hp : 0 ≤ p ∧ p ≤ 3600000000000) {S : List Task} (hS : setOk S) {v : AV} (hv : (⟨v, S.length, encTask.row S⟩ : Sl).okx σ n)
    (k : Int) (hk : k ≤ 1000) {K : AV → List AB → Prop}
    (hK : ∀ (L : List Job) (cap : Nat) (p' : Int), p ≤ p' → p' ≤ p + 3000 → L.length ≤ 62 → (∀ j ∈ L, wildJ j) → K (.sl σ.length 0 L.length cap) (σ.set n (.rw ty_spec_l20Rd [.sl m o B.length c, .i .i64 p'] 2) ++ [.rw ty_impl_Job (encJob.row L) (cap * 4)])) :
    CallWp Try.prog n_spec_l20Jobs [.p n 0, v, .i .i64 k] σ K := by
  exact spec_l20JobsC_ h hC hp hS hv k hk fun L cap p' h1 h2 h3 h4 _ => hK L cap p' h1 h2 h3 h4
end Go.Proofs.Ytmphblbpofnpaaa
