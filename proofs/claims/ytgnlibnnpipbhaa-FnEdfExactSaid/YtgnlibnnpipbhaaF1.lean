/- Contracts: drawn priority orders. -/
import Derived.Test.YtgnlibnnpipbhaaD2
namespace Go.Proofs.Ytgnlibnnpipbhaa
open Go.Abs Go.Ds
set_option linter.unusedSimpArgs false
set_option linter.unusedVariables false
set_option maxRecDepth 20000

theorem rowI_take (L : List Int) (k : Nat) : (encInt.row L).take k = encInt.row (L.take k) := by simpa [encInt] using encInt.take L k
theorem rowI_win (L : List Int) (o n : Nat) : win (encInt.row L) o n = encInt.row ((L.drop o).take n) := by simpa [encInt] using encInt.part L o n
theorem rowI_cons (a : Int) (L : List Int) : AV.i .i64 a :: encInt.row L = encInt.row (a :: L) := rfl
theorem rowI_app (L M : List Int) : encInt.row L ++ encInt.row M = encInt.row (L ++ M) := (encInt.row_append L M).symm
theorem win_row0 {α : Type} (E : Enc α) (L : List α) (n : Nat) (h : n = L.length * E.k) : win (E.row L) 0 n = E.row L := by
  subst h; rw [← E.row_length L]; simp [win]

def OrdP (p : Int) (x : AV) (p' : Int) (τ : List AB) : Prop := (p ≤ p' ∧ p' ≤ p + 50) ∧ ∃ (O : List Int) (cap : Nat), x = .sl 2 0 O.length cap ∧ τ = [.rw ty_int (encInt.row O) cap] ∧ O.length ≤ 9 ∧ ∀ o ∈ O, -1 ≤ o ∧ o ≤ 20

theorem spec_l20Order0 (B : List Nat) (p : Int) (hC : Code B) (hp : 0 ≤ p ∧ p ≤ 3700000000000) (many : Int) (hm : 0 ≤ many ∧ many ≤ 8) (n : Int) (hn : n ≤ 1000) (c : Nat) :
    CallWp Try.prog n_spec_l20Order [.p 1 0, .i .i64 many, .i .i64 n] (rdr B c p) (fun x σ' => ∃ p' τ, σ' = rdr B c p' ++ τ ∧ OrdP p x p' τ) := by
  refine call_spec_l20Order (by simp) ?_
  simp only [c_spec_l20Order, go_sem, Int.reduceToNat, List.take_nil, Nat.zero_mul, Nat.reduceEqDiff, Nat.reduceAdd, Nat.reduceLT, Nat.reduceLeDiff, Nat.reduceMul, ↓reduceIte, reduceCtorEq]
  refine loop_intro (fun i : List Int × Nat × Int => ⟨[(0, .p 1 0), (1, .i .i64 many), (2, .i .i64 n), (7, .sl 2 0 i.1.length i.2.1), (8, .i .i64 i.1.length)], rdr B c i.2.2 ++ [.rw ty_int (encInt.row i.1) i.2.1]⟩)
    (fun i => ((i.1.length : Int) ≤ many ∧ i.1.length ≤ i.2.1) ∧ (∀ j ∈ i.1, -1 ≤ j ∧ j ≤ 20) ∧ p ≤ i.2.2 ∧ i.2.2 ≤ p + i.1.length) (fun i => (many - i.1.length).toNat) ([], 0, p) ?_ (Wk.pick [0, 1, 2]) ?_
  · simp only [List.length_nil]; refine ⟨by omega, by simp, by omega⟩
  rintro ⟨O, cap, q⟩ ⟨hk1, hO, hq1, hq2⟩
  simp only at hk1 hO hq1 hq2
  simp only [l0_spec_l20Order, go_sem, Int.reduceToNat, List.take_nil, Nat.zero_mul, Nat.reduceEqDiff, Nat.reduceAdd, Nat.reduceLT, Nat.reduceLeDiff, Nat.reduceMul, ↓reduceIte, reduceCtorEq]
  refine ⟨fun hl => ?_, fun hl => ?_⟩
  · refine ⟨by omega, ?_⟩
    refine spec_l20Rd_pick_ (Rdr.of (τ := [_])) hC (by omega) _ (by omega) fun r h1 h2 h3 => ?_
    have h2' := h2 (by omega)
    simp only [lenI, rowI_take, rowI_win, rowI_cons, rowI_app, List.take_succ_cons, List.take_zero, go_sem, Int.reduceToNat, List.take_nil, Nat.zero_mul, Nat.reduceEqDiff, Nat.reduceAdd, Nat.reduceLT, Nat.reduceLeDiff, Nat.reduceMul, ↓reduceIte, reduceCtorEq]
    have hr : r.toNat ≤ O.length := by omega
    have E1 : List.take r.toNat O ++ List.take (1 + (O.length - r.toNat)) (List.drop 0 ((O.length : Int) :: List.take (O.length - r.toNat) (List.drop r.toNat O))) = List.take r.toNat O ++ (O.length : Int) :: List.drop r.toNat O := by
      congr 1
      rw [List.drop_zero, Nat.add_comm, List.take_succ_cons, List.take_take, Nat.min_self, List.take_of_length_le (by rw [List.length_drop]; omega)]
    have E2 : cap = r.toNat → List.take r.toNat O ++ List.take (1 + (O.length - r.toNat)) (List.drop 0 ((O.length : Int) :: List.take (O.length - r.toNat) (List.drop 0 O))) = List.take r.toNat O ++ (O.length : Int) :: List.drop r.toNat O := by
      intro hc
      have e : O.length - r.toNat = 0 := by omega
      rw [e, List.drop_of_length_le (by omega : O.length ≤ r.toNat)]
      simp
    have hlen : (List.take r.toNat O ++ (O.length : Int) :: List.drop r.toNat O).length = O.length + 1 := by simp; omega
    have hl' : r.toNat + (1 + (O.length - r.toNat)) = O.length + 1 := by omega
    have hmem : ∀ j ∈ (List.take r.toNat O ++ (O.length : Int) :: List.drop r.toNat O), -1 ≤ j ∧ j ≤ 20 := by
      intro j hj
      rcases List.mem_append.1 hj with hj | hj
      · exact hO j (List.mem_of_mem_take hj)
      · rcases List.mem_cons.1 hj with rfl | hj
        · omega
        · exact hO j (List.mem_of_mem_drop hj)
    refine ⟨by omega, ⟨.inr (by omega), fun h => h.elim⟩, by omega, ⟨by omega, fun h => h.elim, fun h => h.elim⟩, fun _ => ?_, fun hc => ?_⟩
    · refine ⟨by omega, fun cap' hcap' => ⟨⟨by omega, by rw [List.length_take, List.length_drop]; omega, by omega, by omega⟩, fun cap2 hcap2 => ⟨by omega, (_, cap2, q + 1), ⟨⟨by simp only [hlen]; omega, hmem, by simp only [hlen]; omega⟩, by simp only [hlen]; omega⟩, ?_⟩⟩⟩
      simp only [E1, hlen, hl', Int.natCast_add, Int.natCast_one]
      exact Wk.pick [0, 1, 5]
    · refine ⟨by omega, fun cap' hcap' => ⟨⟨by omega, by rw [List.length_take, List.length_drop]; omega, by omega, by omega⟩, fun cap2 hcap2 => ⟨by omega, (_, cap2, q + 1), ⟨⟨by simp only [hlen]; omega, hmem, by simp only [hlen]; omega⟩, by simp only [hlen]; omega⟩, ?_⟩⟩⟩
      simp only [E2 hc, hlen, hl', Int.natCast_add, Int.natCast_one]
      exact Wk.pick [0, 1, 5]
  · refine seq_join (fun i : List Int × Nat × Int => ⟨[(7, .sl 2 0 i.1.length i.2.1)], rdr B c i.2.2 ++ [.rw ty_int (encInt.row i.1) i.2.1]⟩)
      (fun i => i.1.length ≤ 9 ∧ (∀ j ∈ i.1, -1 ≤ j ∧ j ≤ 20) ∧ p ≤ i.2.2 ∧ i.2.2 ≤ p + 50) ?_ ?_
    · simp only [go_sem, Int.reduceToNat, List.take_nil, Nat.zero_mul, Nat.reduceEqDiff, Nat.reduceAdd, Nat.reduceLT, Nat.reduceLeDiff, Nat.reduceMul, ↓reduceIte, reduceCtorEq]
      refine spec_l20Rd_odd_ (Rdr.of (τ := [_])) hC (by omega) _ (by omega) fun b q1 hb1 hb2 hb3 => ?_
      simp only [go_sem, Int.reduceToNat, List.take_nil, Nat.zero_mul, Nat.reduceEqDiff, Nat.reduceAdd, Nat.reduceLT, Nat.reduceLeDiff, Nat.reduceMul, ↓reduceIte, reduceCtorEq, lenT, rdT0, rdT1, rdT2, winT, takeT, appT, splT, splI, winI, lenI, rdI, takeI, appI]
      refine bc_of (fun hb => ?_) (fun hb => kJ_intro (O, cap, q1) ⟨by simp only; omega, hO, by simp only; omega⟩ (Wk.pick [0, 1, 2]))
      refine seq_join (fun i : Bool × Int => ⟨[(0, .p 1 0), (1, .i .i64 many), (7, .sl 2 0 O.length cap), (40, .b i.1)], rdr B c i.2 ++ [.rw ty_int (encInt.row O) cap]⟩)
        (fun i => (i.1 = false → 0 < O.length) ∧ q1 ≤ i.2 ∧ i.2 ≤ q1 + 1) ?_ ?_
      · simp only [go_sem, Int.reduceToNat, List.take_nil, Nat.zero_mul, Nat.reduceEqDiff, Nat.reduceAdd, Nat.reduceLT, Nat.reduceLeDiff, Nat.reduceMul, ↓reduceIte, reduceCtorEq]
        refine ⟨fun h0 => ?_, fun h0 => kJ_intro (true, q1) (by simp only; exact ⟨fun h => absurd h (by decide), by omega⟩) ?_⟩
        · refine spec_l20Rd_pick_ (Rdr.of (τ := [_])) hC (by omega) _ (by omega) fun r2 h21 h22 _ => ?_
          simp only [go_sem, Int.reduceToNat, List.take_nil, Nat.zero_mul, Nat.reduceEqDiff, Nat.reduceAdd, Nat.reduceLT, Nat.reduceLeDiff, Nat.reduceMul, ↓reduceIte, reduceCtorEq, lenT, rdT0, rdT1, rdT2, winT, takeT, appT, splT, splI, winI, lenI, rdI, takeI, appI]
          exact kJ_intro (decide (r2 = 0), q1 + 1) (by simp only; exact ⟨fun _ => by omega, by omega⟩) (Wk.pick [0, 1, 2])
        · simp only [h0, not_true_eq_false, not_false_eq_true, decide_true, decide_false, Bool.not_true, Bool.not_false, false_implies, true_implies, and_true, true_and, Bool.false_eq_true, Bool.true_eq_false, implies_true, Bool.not_not, Classical.not_not]; exact Wk.pick [0, 1, 2]
      · rintro ⟨b, q2⟩ ⟨hb1, hb2, hb3⟩
        simp only at hb1 hb2 hb3
        simp only [go_sem, Int.reduceToNat, List.take_nil, Nat.zero_mul, Nat.reduceEqDiff, Nat.reduceAdd, Nat.reduceLT, Nat.reduceLeDiff, Nat.reduceMul, ↓reduceIte, reduceCtorEq]
        refine bc_of (fun hb => ?_) (fun hb => ?_)
        · refine spec_l20Rd_pick_ (Rdr.of (τ := [_])) hC (by omega) _ (by omega) fun r3 h31 h32 _ => ?_
          have h32' := h32 (by omega)
          simp only [lenI, rowI_take, rowI_win, rowI_cons, rowI_app, List.take_length, go_sem, Int.reduceToNat, List.take_nil, Nat.zero_mul, Nat.reduceEqDiff, Nat.reduceAdd, Nat.reduceLT, Nat.reduceLeDiff, Nat.reduceMul, ↓reduceIte, reduceCtorEq, lenT, rdT0, rdT1, rdT2, winT, takeT, appT, splT, splI, winI, lenI, rdI, takeI, appI]
          refine ⟨by omega, fun cap' hcap' => Fin.pick [0, 1, 4] (.sl 2 0 (O ++ [r3]).length cap') _ ⟨q2 + 1, _, rfl, by omega, O ++ [r3], cap', rfl, rfl, by simp only [List.length_append, List.length_cons, List.length_nil]; omega, fun j hj => ?_⟩⟩
          rcases List.mem_append.1 hj with hj | hj
          · exact hO j hj
          · rw [List.mem_singleton.1 hj]; omega
        · have hpos := hb1 hb
          refine spec_l20Rd_pick_ (Rdr.of (τ := [_])) hC (by omega) _ (by omega) fun r4 h41 h42 _ => ?_
          have h42' := h42 (by omega)
          simp only [lenI, go_sem, Int.reduceToNat, List.take_nil, Nat.zero_mul, Nat.reduceEqDiff, Nat.reduceAdd, Nat.reduceLT, Nat.reduceLeDiff, Nat.reduceMul, ↓reduceIte, reduceCtorEq, lenT, rdT0, rdT1, rdT2, winT, takeT, appT, splT, splI, winI, lenI, rdI, takeI, appI]
          refine spec_l20Rd_pick_ (Rdr.of (τ := [_, _])) hC (by omega) _ (by omega) fun r5 h51 h52 _ => ?_
          have h52' := h52 (by omega)
          obtain ⟨E, hE, eE⟩ := rd_int [-1, many, 0] r5.toNat (by simp; omega)
          simp only [List.map_cons, List.map_nil] at eE
          simp only [List.mem_cons, List.not_mem_nil, or_false] at hE
          have hi : r4.toNat < O.length := by omega
          simp only [eE, hi, lenI, go_sem, Int.reduceToNat, List.take_nil, Nat.zero_mul, Nat.reduceEqDiff, Nat.reduceAdd, Nat.reduceLT, Nat.reduceLeDiff, Nat.reduceMul, ↓reduceIte, reduceCtorEq, lenT, rdT0, rdT1, rdT2, winT, takeT, appT, splT, splI, winI, lenI, rdI, takeI, appI]
          refine ⟨by omega, by omega, by omega, by omega, kJ_intro (O.set r4.toNat E, cap, q2 + 1 + 1) ⟨by simp only [List.length_set]; omega, fun j hj => ?_, by simp only; omega⟩ ?_⟩
          · rcases List.mem_or_eq_of_mem_set hj with hj | rfl
            · exact hO j hj
            · omega
          · simp only [List.length_set]; exact Wk.pick [0, 1, 2]
    · rintro ⟨O, cap, q⟩ ⟨hl, hJ, hq1, hq2⟩
      simp only at hl hJ hq1 hq2
      simp only [go_sem, Int.reduceToNat, List.take_nil, Nat.zero_mul, Nat.reduceEqDiff, Nat.reduceAdd, Nat.reduceLT, Nat.reduceLeDiff, Nat.reduceMul, ↓reduceIte, reduceCtorEq]
      exact Fin.plain ⟨q, _, rfl, ⟨hq1, hq2⟩, O, cap, rfl, rfl, hl, hJ⟩

theorem spec_l20Order_ {σ : List AB} {n m o c : Nat} {B : List Nat} {p : Int} (h : Rdr ty_spec_l20Rd σ n B p m o c) (hC : Code B) (hp : 0 ≤ p ∧ p ≤ 3700000000000) (many : Int) (hm : 0 ≤ many ∧ many ≤ 8) (k : Int) (hk : k ≤ 1000) {K : AV → List AB → Prop}
    (hK : ∀ (O : List Int) (cap : Nat) (p' : Int), p ≤ p' → p' ≤ p + 50 → O.length ≤ 9 → (∀ o ∈ O, -1 ≤ o ∧ o ≤ 20) → K (.sl σ.length 0 O.length cap) (σ.set n (.rw ty_spec_l20Rd [.sl m o B.length c, .i .i64 p'] 2) ++ [.rw ty_int (encInt.row O) cap])) :
    CallWp Try.prog n_spec_l20Order [.p n 0, .i .i64 many, .i .i64 k] σ K := by
  refine call_rdr ty_spec_l20Rd h [] (by simp) (fun _ => [.i .i64 many, .i .i64 k]) (OrdP p) (fun _ => spec_l20Order0 B p hC hp many hm k hk c) ?_ (fun _ _ _ => ⟨.inl rfl, .inl rfl, trivial⟩) (fun _ => rfl) ?_
  · rintro x p' τ ⟨_, O, cap, rfl, rfl, _⟩; exact ⟨by simp [plainRw, encInt.row_flat], rfl⟩
  · rintro x p' τ ⟨⟨h1, h2⟩, O, cap, rfl, rfl, h3, h4⟩
    exact hK O cap p' h1 h2 h3 h4
end Go.Proofs.Ytgnlibnnpipbhaa
