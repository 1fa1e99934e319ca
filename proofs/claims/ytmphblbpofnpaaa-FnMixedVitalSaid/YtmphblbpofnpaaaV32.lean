import Derived.Test.YtmphblbpofnpaaaV29
import Derived.Test.YtmphblbpofnpaaaS14
import Derived.Test.YtmphblbpofnpaaaM33
namespace Go.Proofs.Ytmphblbpofnpaaa
open Go.Abs Go.Ds
set_option linter.unusedSimpArgs false
set_option linter.unusedVariables false
set_option maxRecDepth 20000
set_option maxHeartbeats 4000000
theorem mixRunOk.sc {S : List MTask} {L : List Job} {nu de : Int} (h : mixRunOk S L nu de) : ScaleOk S nu de := by
  have := h.1
  unfold scaleR at this
  rw [if_pos h.2.1] at this
  exact scaleAt_ok h.2.1 this
theorem missed_at {L : List Job} {fin : List Int} {k : Nat} (h : k < (missedL L fin).length) : ∃ n : Nat, n < L.length ∧ (missedL L fin)[k] = n ∧ lateAt L fin n = true := by
  have hm := List.getElem_mem h
  unfold missedL at hm
  obtain ⟨n, hn, e⟩ := List.mem_map.1 hm
  rw [List.mem_filter, List.mem_range] at hn
  exact ⟨n, hn.1, e.symm, hn.2⟩
theorem laws_FnMixedVital0 (C : List Nat) (hC : ∀ x ∈ C, x < 256) (c : Nat) (hc : C.length ≤ c) : CallWp Try.prog n_laws_FnMixedVital [.sl 0 0 C.length c] [.ro (encByte.row C)] (fun x _ => x = .b true) := by
  refine call_laws_FnMixedVital (by simp) ?_
  simp only [c_laws_FnMixedVital, go_sem, Int.reduceToNat, List.take_nil, Nat.zero_mul, Nat.reduceEqDiff, Nat.reduceAdd, Nat.reduceLT, Nat.reduceLeDiff, Nat.reduceMul, ↓reduceIte, reduceCtorEq]
  refine ⟨fun h => Fin.plain rfl, fun h => ?_⟩
  refine (spec_DrawRunMixed0 C hC c hc).mono ?_
  rintro x σ' _ ⟨S, L, cap, cap', rfl, rfl, hS8, hL62⟩
  simp only [go_sem, Int.reduceToNat, List.take_nil, Nat.zero_mul, Nat.reduceEqDiff, Nat.reduceAdd, Nat.reduceLT, Nat.reduceLeDiff, Nat.reduceMul, ↓reduceIte, reduceCtorEq]
  obtain ⟨nu, de, hsc⟩ := scale_any S
  have hR := mixRun_length S nu de L
  have hF := mixFin_length S nu de L
  by_cases hv : mixRunOk S L nu de
  · refine impl_RunMixed_ (S := S) (L := L) hsc (by omega) (by omega) (Rd.own rfl) (Rd.own rfl) (fun hno => absurd hv hno) (fun _ c1 c2 => ?_)
    simp only [go_sem, Int.reduceToNat, List.take_nil, Nat.zero_mul, Nat.reduceEqDiff, Nat.reduceAdd, Nat.reduceLT, Nat.reduceLeDiff, Nat.reduceMul, ↓reduceIte, reduceCtorEq]
    refine spec_RunMixed_ (S := S) (L := L) hsc (by omega) (by omega) (Rd.own rfl) (Rd.own rfl) (fun hno => absurd hv hno) (fun _ => ?_)
    rintro x τ (⟨hno, _⟩ | ⟨_, d1, d2, ⟨hne, rfl, rfl⟩ | ⟨hne, rfl, rfl⟩⟩)
    · exact absurd trivial hno
    all_goals
      simp only [go_sem, Int.reduceToNat, List.take_nil, Nat.zero_mul, Nat.reduceEqDiff, Nat.reduceAdd, Nat.reduceLT, Nat.reduceLeDiff, Nat.reduceMul, ↓reduceIte, reduceCtorEq]
      refine laws_sameMixed_ (X1 := mixRun S nu de L) (Y1 := mixFin S nu de L) (X2 := mixRun S nu de L) (Y2 := mixFin S nu de L) (Rd.len' rfl hR) (Rd.len' rfl hF) (Rd.len' rfl hR) (by first | exact Rd.own rfl | (rw [hne]; exact Rd.none (by simp))) (by omega) (by omega) ?_
      simp only [not_true_eq_false, not_false_eq_true, decide_true, decide_false, Bool.not_true, Bool.not_false, false_implies, true_implies, and_true, true_and, Bool.false_eq_true, Bool.true_eq_false, implies_true, Bool.not_not, Classical.not_not, go_sem, Int.reduceToNat, List.take_nil, Nat.zero_mul, Nat.reduceEqDiff, Nat.reduceAdd, Nat.reduceLT, Nat.reduceLeDiff, Nat.reduceMul, ↓reduceIte, reduceCtorEq]
      refine ⟨fun h => absurd rfl h, fun _ => ?_⟩
      refine impl_Missed_ (L := L) (fin := mixFin S nu de L) (by omega) hF (Rd.own rfl) (Rd.len' rfl hF) (fun e => ?_) (fun ne cM => ?_)
      · simp only [not_true_eq_false, not_false_eq_true, decide_true, decide_false, Bool.not_true, Bool.not_false, false_implies, true_implies, and_true, true_and, Bool.false_eq_true, Bool.true_eq_false, implies_true, Bool.not_not, Classical.not_not, go_sem, Int.reduceToNat, List.take_nil, Nat.zero_mul, Nat.reduceEqDiff, Nat.reduceAdd, Nat.reduceLT, Nat.reduceLeDiff, Nat.reduceMul, ↓reduceIte, reduceCtorEq]
        refine loop_count 0 (fun k => ⟨[(6, .sn), (7, .i .i64 k)], [.ro (encByte.row C)]⟩) (fun _ => True) trivial (Wk.pick [0]) fun k hk _ => ?_
        obtain rfl : k = 0 := by omega
        simp only [l0_laws_FnMixedVital, not_true_eq_false, not_false_eq_true, decide_true, decide_false, Bool.not_true, Bool.not_false, false_implies, true_implies, and_true, true_and, Bool.false_eq_true, Bool.true_eq_false, implies_true, Bool.not_not, Classical.not_not, go_sem, Int.reduceToNat, List.take_nil, Nat.zero_mul, Nat.reduceEqDiff, Nat.reduceAdd, Nat.reduceLT, Nat.reduceLeDiff, Nat.reduceMul, ↓reduceIte, reduceCtorEq]
        refine ⟨fun hl => by omega, fun _ => Fin.plain rfl⟩
      · simp only [not_true_eq_false, not_false_eq_true, decide_true, decide_false, Bool.not_true, Bool.not_false, false_implies, true_implies, and_true, true_and, Bool.false_eq_true, Bool.true_eq_false, implies_true, Bool.not_not, Classical.not_not, go_sem, Int.reduceToNat, List.take_nil, Nat.zero_mul, Nat.reduceEqDiff, Nat.reduceAdd, Nat.reduceLT, Nat.reduceLeDiff, Nat.reduceMul, ↓reduceIte, reduceCtorEq]
        have hml : (missedL L (mixFin S nu de L)).length ≤ L.length := by
          unfold missedL
          rw [List.length_map]
          exact Nat.le_trans (List.length_filter_le _ _) (by simp)
        refine loop_count (missedL L (mixFin S nu de L)).length (fun k => ⟨[(3, .sl 1 0 S.length cap), (4, .sl 2 0 L.length cap'), (6, .sl 3 0 (missedL L (mixFin S nu de L)).length (missedL L (mixFin S nu de L)).length), (7, .i .i64 k)], [.ro (encByte.row C), .rw ty_impl_MixedTask (encMT.row S) (cap * 4), .rw ty_impl_Job (encJob.row L) (cap' * 4), .rw ty_int (encInt.row (missedL L (mixFin S nu de L))) cM]⟩)
          (fun _ => True) trivial (by first | exact Wk.pick [0, 1, 2, 8] | exact Wk.pick [0, 1, 2, 7]) fun k hk _ => ?_
        simp only [l0_laws_FnMixedVital, not_true_eq_false, not_false_eq_true, decide_true, decide_false, Bool.not_true, Bool.not_false, false_implies, true_implies, and_true, true_and, Bool.false_eq_true, Bool.true_eq_false, implies_true, Bool.not_not, Classical.not_not, go_sem, Int.reduceToNat, List.take_nil, Nat.zero_mul, Nat.reduceEqDiff, Nat.reduceAdd, Nat.reduceLT, Nat.reduceLeDiff, Nat.reduceMul, ↓reduceIte, reduceCtorEq]
        refine ⟨fun hl => ?_, fun _ => Fin.plain rfl⟩
        obtain ⟨n, hn, e, hlate⟩ := missed_at hl
        have hnv := mix_late hv.2 hv.sc hn hlate
        obtain ⟨t, ht, et, _⟩ := mix_row hv.2 hn
        unfold vitJ at hnv
        rw [show L.getD n default = L[n] by simp [List.getD_eq_getElem?_getD, hn], et, gM_nat ht] at hnv
        simp only [rdI hl, e, Int.toNat_natCast, rdJ0 hn, et, rdM3 ht, hnv, lenI, lenJ, lenM, not_true_eq_false, not_false_eq_true, decide_true, decide_false, Bool.not_true, Bool.not_false, false_implies, true_implies, and_true, true_and, Bool.false_eq_true, Bool.true_eq_false, implies_true, Bool.not_not, Classical.not_not, go_sem, Int.reduceToNat, List.take_nil, Nat.zero_mul, Nat.reduceEqDiff, Nat.reduceAdd, Nat.reduceLT, Nat.reduceLeDiff, Nat.reduceMul, ↓reduceIte, reduceCtorEq]
        repeat' first | omega | (exfalso; omega) | exact Wk.pick [0, 1, 2, 3] | refine ⟨?_, ?_⟩ | intro _
  · refine impl_RunMixed_ (S := S) (L := L) hsc (by omega) (by omega) (Rd.own rfl) (Rd.own rfl) (fun _ => ?_) (fun h => absurd h hv)
    simp only [go_sem, Int.reduceToNat, List.take_nil, Nat.zero_mul, Nat.reduceEqDiff, Nat.reduceAdd, Nat.reduceLT, Nat.reduceLeDiff, Nat.reduceMul, ↓reduceIte, reduceCtorEq]
    refine spec_RunMixed_ (S := S) (L := L) hsc (by omega) (by omega) (Rd.own rfl) (Rd.own rfl) (fun _ => ?_) (fun h => absurd h hv)
    simp only [go_sem, Int.reduceToNat, List.take_nil, Nat.zero_mul, Nat.reduceEqDiff, Nat.reduceAdd, Nat.reduceLT, Nat.reduceLeDiff, Nat.reduceMul, ↓reduceIte, reduceCtorEq]
    refine laws_sameMixed_ (X1 := []) (Y1 := []) (X2 := []) (Y2 := []) (Rd.none (by simp)) (Rd.none (by simp)) (Rd.none (by simp)) (Rd.none (by simp)) (by simp) (by simp) ?_
    simp only [not_true_eq_false, not_false_eq_true, decide_true, decide_false, Bool.not_true, Bool.not_false, false_implies, true_implies, and_true, true_and, Bool.false_eq_true, Bool.true_eq_false, implies_true, Bool.not_not, Classical.not_not, go_sem, Int.reduceToNat, List.take_nil, Nat.zero_mul, Nat.reduceEqDiff, Nat.reduceAdd, Nat.reduceLT, Nat.reduceLeDiff, Nat.reduceMul, ↓reduceIte, reduceCtorEq]
    refine ⟨fun _ => ⟨by omega, fun _ => laws_alive_ ?_, fun h => absurd (by decide) h⟩, fun h => absurd h (by decide)⟩
    simp only [not_true_eq_false, not_false_eq_true, decide_true, decide_false, Bool.not_true, Bool.not_false, false_implies, true_implies, and_true, true_and, Bool.false_eq_true, Bool.true_eq_false, implies_true, Bool.not_not, Classical.not_not, go_sem, Int.reduceToNat, List.take_nil, Nat.zero_mul, Nat.reduceEqDiff, Nat.reduceAdd, Nat.reduceLT, Nat.reduceLeDiff, Nat.reduceMul, ↓reduceIte, reduceCtorEq]
    exact Fin.plain rfl
theorem c_FnMixedVital (C : List Nat) (c : Nat) (hC : ∀ x ∈ C, x < 256) (_ : C.length * 1 ≤ 140737488351232) (hc : C.length ≤ c) : CallWp Try.prog n_laws_FnMixedVital [.sl 0 0 C.length c] [.ro (encByte.row C)] (fun x _ => x = .b true) := laws_FnMixedVital0 C hC c hc
end Go.Proofs.Ytmphblbpofnpaaa
