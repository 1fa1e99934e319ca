/- The law FnJitterResponse answers true: over the abstract heap. -/
import Derived.Test.YtklidlannicomaaE7
import Derived.Test.YtklidlannicomaaE8
import Derived.Test.YtklidlannicomaaF1
import Derived.Test.YtklidlannicomaaD3
namespace Go.Proofs.Ytklidlannicomaa
open Go.Abs Go.Ds
set_option linter.unusedSimpArgs false
set_option linter.unusedVariables false
set_option maxRecDepth 20000

theorem spec_DrawJitterResponse0 (C : List Nat) (hC : ∀ x ∈ C, x < 256) (c : Nat) (hc : C.length ≤ c) : CallWp Try.prog n_spec_DrawJitterResponse [.sl 0 0 C.length c] [.ro (encByte.row C)] (fun x σ' => ∃ (L : List Task) (J O : List Int) (cap cap' cap3 : Nat),
    x = .tup [.sl 1 0 L.length cap, .sl 2 0 J.length cap', .sl 3 0 O.length cap3] ∧ σ' = [.ro (encByte.row C), .rw ty_impl_Task (encTask.row L) (cap * 3), .rw ty_int (encInt.row J) cap', .rw ty_int (encInt.row O) cap3] ∧ (L.length ≤ 8 ∧ ∀ t ∈ L, wildT t) ∧ (J.length ≤ 9 ∧ ∀ j ∈ J, -1 ≤ j ∧ j ≤ 20) ∧ O.length ≤ 9 ∧ ∀ j ∈ O, -1 ≤ j ∧ j ≤ 20) := by
  refine call_spec_DrawJitterResponse (by simp) ?_
  simp only [c_spec_DrawJitterResponse, go_sem, Int.reduceToNat, List.take_nil, Nat.zero_mul, Nat.reduceEqDiff, Nat.reduceAdd, Nat.reduceLT, Nat.reduceLeDiff, Nat.reduceMul, ↓reduceIte, reduceCtorEq]
  refine (spec_l20Open0 C c hc).mono ?_
  rintro x σ' _ ⟨rfl, rfl⟩
  simp only [go_sem, Int.reduceToNat, List.take_nil, Nat.zero_mul, Nat.reduceEqDiff, Nat.reduceAdd, Nat.reduceLT, Nat.reduceLeDiff, Nat.reduceMul, ↓reduceIte, reduceCtorEq]
  refine spec_l20Set_ (Rdr.take (τ := [])) (Code.take hC) (by omega) _ (by omega) fun L cap p1 h11 h12 hL8 hL _ => ?_
  simp only [go_sem, Int.reduceToNat, List.take_nil, Nat.zero_mul, Nat.reduceEqDiff, Nat.reduceAdd, Nat.reduceLT, Nat.reduceLeDiff, Nat.reduceMul, ↓reduceIte, reduceCtorEq]
  refine spec_l20Jitter_ (Rdr.take (τ := [_])) (Code.take hC) (by omega) hL8 hL (Sl.own rfl (by decide)) _ (by omega) fun J cap' p2 h21 h22 hJ9 hJ => ?_
  simp only [go_sem, Int.reduceToNat, List.take_nil, Nat.zero_mul, Nat.reduceEqDiff, Nat.reduceAdd, Nat.reduceLT, Nat.reduceLeDiff, Nat.reduceMul, ↓reduceIte, reduceCtorEq]
  refine spec_l20Order_ (Rdr.take (τ := [_, _])) (Code.take hC) (by omega) _ (by omega) _ (by omega) fun O cap3 p3 h31 h32 hO9 hO => ?_
  simp only [go_sem, Int.reduceToNat, List.take_nil, Nat.zero_mul, Nat.reduceEqDiff, Nat.reduceAdd, Nat.reduceLT, Nat.reduceLeDiff, Nat.reduceMul, ↓reduceIte, reduceCtorEq]
  refine Fin.pick [0, 2, 3, 4] (.tup [.sl 1 0 L.length cap, .sl 2 0 J.length cap', .sl 3 0 O.length cap3]) _ ⟨L, J, O, cap, cap', cap3, rfl, rfl, ⟨hL8, hL⟩, ⟨hJ9, hJ⟩, hO9, hO⟩

theorem Rd.len' {α : Type} {E : Enc α} {σ : List AB} {n len cap : Nat} {L : List α} (h : cellsOf σ n = some (E.row L)) (hl : L.length = len) : Rd E σ (.sl n 0 len cap) L := by subst hl; exact Rd.own h
theorem Rd.nil {α : Type} {E : Enc α} {σ : List AB} (h : 0 < σ.length) : Rd E σ .sn [] := .inr ⟨rfl, rfl, h⟩

theorem laws_FnJitterResponse0 (C : List Nat) (hC : ∀ x ∈ C, x < 256) (c : Nat) (hc : C.length ≤ c) : CallWp Try.prog n_laws_FnJitterResponse [.sl 0 0 C.length c] [.ro (encByte.row C)] (fun x _ => x = .b true) := by
  refine call_laws_FnJitterResponse (by simp) ?_
  simp only [c_laws_FnJitterResponse, go_sem, Int.reduceToNat, List.take_nil, Nat.zero_mul, Nat.reduceEqDiff, Nat.reduceAdd, Nat.reduceLT, Nat.reduceLeDiff, Nat.reduceMul, ↓reduceIte, reduceCtorEq]
  refine ⟨fun h => Fin.plain rfl, fun h => ?_⟩
  refine (spec_DrawJitterResponse0 C hC c hc).mono ?_
  rintro x σ' _ ⟨S, J, O, cap, cap', cap3, rfl, rfl, ⟨hS8, hSw⟩, ⟨hJ9, hJw⟩, hO9, hOw⟩
  simp only [go_sem, Int.reduceToNat, List.take_nil, Nat.zero_mul, Nat.reduceEqDiff, Nat.reduceAdd, Nat.reduceLT, Nat.reduceLeDiff, Nat.reduceMul, ↓reduceIte, reduceCtorEq]
  by_cases hv : jitOk S J ∧ ordOk S O
  · obtain ⟨hJ, hO⟩ := hv
    have hR := resps_length S J O O.length
    have hR0 := resps_length S (List.replicate S.length 0) O O.length
    refine impl_JitterResponse_ (S := S) (J := J) (O := O) (by omega) (by omega) (by omega) (Rd.own rfl) (Rd.own rfl) (Rd.own rfl) (fun hno => absurd ⟨hJ, hO⟩ hno) (fun _ _ d1 => ?_)
    simp only [go_sem, Int.reduceToNat, List.take_nil, Nat.zero_mul, Nat.reduceEqDiff, Nat.reduceAdd, Nat.reduceLT, Nat.reduceLeDiff, Nat.reduceMul, ↓reduceIte, reduceCtorEq]
    refine spec_JitterResponse_ (S := S) (J := J) (O := O) (by omega) (by omega) (by omega) (Rd.own rfl) (Rd.own rfl) (Rd.own rfl) (fun hno => absurd ⟨hJ, hO⟩ hno) (fun _ _ d2 => ?_)
    simp only [go_sem, Int.reduceToNat, List.take_nil, Nat.zero_mul, Nat.reduceEqDiff, Nat.reduceAdd, Nat.reduceLT, Nat.reduceLeDiff, Nat.reduceMul, ↓reduceIte, reduceCtorEq]
    refine laws_sameInts_ (by omega) (Rd.len' rfl hR) (Rd.len' rfl hR) ?_
    simp only [not_true_eq_false, not_false_eq_true, decide_true, decide_false, Bool.not_true, Bool.not_false, false_implies, true_implies, and_true, true_and, Bool.false_eq_true, Bool.true_eq_false, implies_true, Bool.not_not, Classical.not_not, go_sem, Int.reduceToNat, List.take_nil, Nat.zero_mul, Nat.reduceEqDiff, Nat.reduceAdd, Nat.reduceLT, Nat.reduceLeDiff, Nat.reduceMul, ↓reduceIte, reduceCtorEq]
    refine impl_ResponseTimes_ (S := S) (O := O) (by omega) (by omega) (Rd.own rfl) (Rd.own rfl) (fun hno => absurd hO hno) (fun _ d3 => ?_)
    simp only [go_sem, Int.reduceToNat, List.take_nil, Nat.zero_mul, Nat.reduceEqDiff, Nat.reduceAdd, Nat.reduceLT, Nat.reduceLeDiff, Nat.reduceMul, ↓reduceIte, reduceCtorEq]
    have hz : (List.replicate S.length (0 : Int)).length = S.length := by simp
    have h5 := hO.1.1
    rw [show rep S.length [AV.i .i64 0] = encInt.row (List.replicate S.length 0) from encInt.rep 0 _]
    refine ⟨by omega, impl_JitterResponse_ (S := S) (J := List.replicate S.length 0) (O := O) (by omega) (by omega) (by omega) (Rd.own rfl) (Rd.len' rfl hz) (Rd.own rfl) (fun hno => absurd ⟨zeros_ok hO.1, hO⟩ hno) (fun _ _ d4 => ?_)⟩
    simp only [go_sem, Int.reduceToNat, List.take_nil, Nat.zero_mul, Nat.reduceEqDiff, Nat.reduceAdd, Nat.reduceLT, Nat.reduceLeDiff, Nat.reduceMul, ↓reduceIte, reduceCtorEq]
    refine laws_sameInts_ (by omega) (Rd.len' rfl hR0) (Rd.len' rfl hR0) ?_
    simp only [not_true_eq_false, not_false_eq_true, decide_true, decide_false, Bool.not_true, Bool.not_false, false_implies, true_implies, and_true, true_and, Bool.false_eq_true, Bool.true_eq_false, implies_true, Bool.not_not, Classical.not_not, go_sem, Int.reduceToNat, List.take_nil, Nat.zero_mul, Nat.reduceEqDiff, Nat.reduceAdd, Nat.reduceLT, Nat.reduceLeDiff, Nat.reduceMul, ↓reduceIte, reduceCtorEq]
    refine spec_JitterValid_ (L := S) (J := J) (by omega) (by omega) (Rd.own rfl) (Rd.own rfl) ?_
    simp only [hJ, not_true_eq_false, not_false_eq_true, decide_true, decide_false, Bool.not_true, Bool.not_false, false_implies, true_implies, and_true, true_and, Bool.false_eq_true, Bool.true_eq_false, implies_true, Bool.not_not, Classical.not_not, go_sem, Int.reduceToNat, List.take_nil, Nat.zero_mul, Nat.reduceEqDiff, Nat.reduceAdd, Nat.reduceLT, Nat.reduceLeDiff, Nat.reduceMul, ↓reduceIte, reduceCtorEq]
    refine spec_OrderValid_ (S := S) (O := O) (by omega) (by omega) (Rd.own rfl) (Rd.own rfl) ?_
    simp only [hO, not_true_eq_false, not_false_eq_true, decide_true, decide_false, Bool.not_true, Bool.not_false, false_implies, true_implies, and_true, true_and, Bool.false_eq_true, Bool.true_eq_false, implies_true, Bool.not_not, Classical.not_not, go_sem, Int.reduceToNat, List.take_nil, Nat.zero_mul, Nat.reduceEqDiff, Nat.reduceAdd, Nat.reduceLT, Nat.reduceLeDiff, Nat.reduceMul, ↓reduceIte, reduceCtorEq]
    refine loop_count S.length (fun k => ⟨[(3, .sl 1 0 S.length cap), (4, .sl 2 0 J.length cap'), (6, .sl 3 0 S.length d1), (7, .sl 4 0 S.length d3), (8, .i .i64 k)], [.ro (encByte.row C), .rw ty_impl_Task (encTask.row S) (cap * 3), .rw ty_int (encInt.row J) cap', .rw ty_int (encInt.row (resps S J O O.length)) d1, .rw ty_int (encInt.row (resps S (List.replicate S.length 0) O O.length)) d3]⟩)
      (fun _ => True) trivial (Wk.pick [0, 1, 2, 4, 6]) fun k hk _ => ?_
    simp only [l0_laws_FnJitterResponse, go_sem, Int.reduceToNat, List.take_nil, Nat.zero_mul, Nat.reduceEqDiff, Nat.reduceAdd, Nat.reduceLT, Nat.reduceLeDiff, Nat.reduceMul, ↓reduceIte, reduceCtorEq]
    refine ⟨fun hl => ?_, fun hl => ?_⟩
    · have hkR : k < (resps S J O O.length).length := by omega
      have hkR0 : k < (resps S (List.replicate S.length 0) O O.length).length := by omega
      have hkJ : k < J.length := by have := hJ.2.1; omega
      have f1 := resps_range hJ hO (i := k) (by omega) (by omega)
      have f2 := resps_range (zeros_ok hO.1) hO (i := k) (by omega) (by omega)
      have f3 := resps_mono (zeros_ok hO.1) hJ hO (fun q => by rw [gI_zeros]; exact gI_nonneg hJ q) (i := k) (by omega) (by omega)
      have f4 := resps_bounds hJ hO (i := k) (by omega) (by omega)
      rw [gI_nat hkR] at f1 f3 f4
      rw [gI_nat hkR0] at f2 f3
      rw [gI_nat hkJ, gT_nat hl] at f4
      have hw := hSw _ (List.getElem_mem hl)
      unfold wildT at hw
      have hj := hJw _ (List.getElem_mem hkJ)
      simp only [rdI hkR, rdI hkR0, rdI hkJ, rdT0 hl, rdT1 hl, lenI, lenT, hR, hR0, not_true_eq_false, not_false_eq_true, decide_true, decide_false, Bool.not_true, Bool.not_false, false_implies, true_implies, and_true, true_and, Bool.false_eq_true, Bool.true_eq_false, implies_true, Bool.not_not, Classical.not_not, go_sem, Int.reduceToNat, List.take_nil, Nat.zero_mul, Nat.reduceEqDiff, Nat.reduceAdd, Nat.reduceLT, Nat.reduceLeDiff, Nat.reduceMul, ↓reduceIte, reduceCtorEq]
      repeat' first | omega | (exfalso; omega) | exact Wk.pick [0, 1, 2, 3, 4] | refine ⟨?_, ?_⟩ | intro _
    · exact Fin.plain rfl
  · refine impl_JitterResponse_ (S := S) (J := J) (O := O) (by omega) (by omega) (by omega) (Rd.own rfl) (Rd.own rfl) (Rd.own rfl) (fun _ => ?_) (fun h1 h2 => absurd ⟨h1, h2⟩ hv)
    simp only [go_sem, Int.reduceToNat, List.take_nil, Nat.zero_mul, Nat.reduceEqDiff, Nat.reduceAdd, Nat.reduceLT, Nat.reduceLeDiff, Nat.reduceMul, ↓reduceIte, reduceCtorEq]
    refine spec_JitterResponse_ (S := S) (J := J) (O := O) (by omega) (by omega) (by omega) (Rd.own rfl) (Rd.own rfl) (Rd.own rfl) (fun _ d2 => ?_) (fun h1 h2 => absurd ⟨h1, h2⟩ hv)
    simp only [go_sem, Int.reduceToNat, List.take_nil, Nat.zero_mul, Nat.reduceEqDiff, Nat.reduceAdd, Nat.reduceLT, Nat.reduceLeDiff, Nat.reduceMul, ↓reduceIte, reduceCtorEq]
    refine laws_sameInts_ (L := []) (M := []) (by simp) (Rd.nil (by simp)) (Rd.len' rfl rfl) ?_
    simp only [not_true_eq_false, not_false_eq_true, decide_true, decide_false, Bool.not_true, Bool.not_false, false_implies, true_implies, and_true, true_and, Bool.false_eq_true, Bool.true_eq_false, implies_true, Bool.not_not, Classical.not_not, go_sem, Int.reduceToNat, List.take_nil, Nat.zero_mul, Nat.reduceEqDiff, Nat.reduceAdd, Nat.reduceLT, Nat.reduceLeDiff, Nat.reduceMul, ↓reduceIte, reduceCtorEq]
    have hz : (List.replicate S.length (0 : Int)).length = S.length := by simp
    refine impl_ResponseTimes_ (S := S) (O := O) (by omega) (by omega) (Rd.own rfl) (Rd.own rfl) (fun hno => ?_) (fun hO d3 => ?_)
    · simp only [go_sem, Int.reduceToNat, List.take_nil, Nat.zero_mul, Nat.reduceEqDiff, Nat.reduceAdd, Nat.reduceLT, Nat.reduceLeDiff, Nat.reduceMul, ↓reduceIte, reduceCtorEq]
      rw [show rep S.length [AV.i .i64 0] = encInt.row (List.replicate S.length 0) from encInt.rep 0 _]
      refine ⟨by omega, impl_JitterResponse_ (S := S) (J := List.replicate S.length 0) (O := O) (by omega) (by omega) (by omega) (Rd.own rfl) (Rd.len' rfl hz) (Rd.own rfl) (fun _ => ?_) (fun _ h => absurd h hno)⟩
      simp only [go_sem, Int.reduceToNat, List.take_nil, Nat.zero_mul, Nat.reduceEqDiff, Nat.reduceAdd, Nat.reduceLT, Nat.reduceLeDiff, Nat.reduceMul, ↓reduceIte, reduceCtorEq]
      refine laws_sameInts_ (L := []) (M := []) (by simp) (Rd.nil (by simp)) (Rd.nil (by simp)) ?_
      simp only [not_true_eq_false, not_false_eq_true, decide_true, decide_false, Bool.not_true, Bool.not_false, false_implies, true_implies, and_true, true_and, Bool.false_eq_true, Bool.true_eq_false, implies_true, Bool.not_not, Classical.not_not, go_sem, Int.reduceToNat, List.take_nil, Nat.zero_mul, Nat.reduceEqDiff, Nat.reduceAdd, Nat.reduceLT, Nat.reduceLeDiff, Nat.reduceMul, ↓reduceIte, reduceCtorEq]
      refine spec_JitterValid_ (L := S) (J := J) (by omega) (by omega) (Rd.own rfl) (Rd.own rfl) ?_
      simp only [not_true_eq_false, not_false_eq_true, decide_true, decide_false, Bool.not_true, Bool.not_false, false_implies, true_implies, and_true, true_and, Bool.false_eq_true, Bool.true_eq_false, implies_true, Bool.not_not, Classical.not_not, go_sem, Int.reduceToNat, List.take_nil, Nat.zero_mul, Nat.reduceEqDiff, Nat.reduceAdd, Nat.reduceLT, Nat.reduceLeDiff, Nat.reduceMul, ↓reduceIte, reduceCtorEq]
      refine ⟨fun h1 => spec_OrderValid_ (S := S) (O := O) (by omega) (by omega) (Rd.own rfl) (Rd.own rfl) ?_, fun h1 => laws_alive_ ?_⟩
      · simp only [hno, not_true_eq_false, not_false_eq_true, decide_true, decide_false, Bool.not_true, Bool.not_false, false_implies, true_implies, and_true, true_and, Bool.false_eq_true, Bool.true_eq_false, implies_true, Bool.not_not, Classical.not_not, go_sem, Int.reduceToNat, List.take_nil, Nat.zero_mul, Nat.reduceEqDiff, Nat.reduceAdd, Nat.reduceLT, Nat.reduceLeDiff, Nat.reduceMul, ↓reduceIte, reduceCtorEq]
        refine laws_alive_ ?_
        simp only [not_true_eq_false, not_false_eq_true, decide_true, decide_false, Bool.not_true, Bool.not_false, false_implies, true_implies, and_true, true_and, Bool.false_eq_true, Bool.true_eq_false, implies_true, Bool.not_not, Classical.not_not, go_sem, Int.reduceToNat, List.take_nil, Nat.zero_mul, Nat.reduceEqDiff, Nat.reduceAdd, Nat.reduceLT, Nat.reduceLeDiff, Nat.reduceMul, ↓reduceIte, reduceCtorEq]
        exact Fin.plain rfl
      · simp only [not_true_eq_false, not_false_eq_true, decide_true, decide_false, Bool.not_true, Bool.not_false, false_implies, true_implies, and_true, true_and, Bool.false_eq_true, Bool.true_eq_false, implies_true, Bool.not_not, Classical.not_not, go_sem, Int.reduceToNat, List.take_nil, Nat.zero_mul, Nat.reduceEqDiff, Nat.reduceAdd, Nat.reduceLT, Nat.reduceLeDiff, Nat.reduceMul, ↓reduceIte, reduceCtorEq]
        exact Fin.plain rfl
    · have hR0 := resps_length S (List.replicate S.length 0) O O.length
      have hnJ : ¬ jitOk S J := fun h => hv ⟨h, hO⟩
      simp only [go_sem, Int.reduceToNat, List.take_nil, Nat.zero_mul, Nat.reduceEqDiff, Nat.reduceAdd, Nat.reduceLT, Nat.reduceLeDiff, Nat.reduceMul, ↓reduceIte, reduceCtorEq]
      rw [show rep S.length [AV.i .i64 0] = encInt.row (List.replicate S.length 0) from encInt.rep 0 _]
      refine ⟨by omega, impl_JitterResponse_ (S := S) (J := List.replicate S.length 0) (O := O) (by omega) (by omega) (by omega) (Rd.own rfl) (Rd.len' rfl hz) (Rd.own rfl) (fun hno => absurd ⟨zeros_ok hO.1, hO⟩ hno) (fun _ _ d4 => ?_)⟩
      simp only [go_sem, Int.reduceToNat, List.take_nil, Nat.zero_mul, Nat.reduceEqDiff, Nat.reduceAdd, Nat.reduceLT, Nat.reduceLeDiff, Nat.reduceMul, ↓reduceIte, reduceCtorEq]
      refine laws_sameInts_ (by omega) (Rd.len' rfl hR0) (Rd.len' rfl hR0) ?_
      simp only [not_true_eq_false, not_false_eq_true, decide_true, decide_false, Bool.not_true, Bool.not_false, false_implies, true_implies, and_true, true_and, Bool.false_eq_true, Bool.true_eq_false, implies_true, Bool.not_not, Classical.not_not, go_sem, Int.reduceToNat, List.take_nil, Nat.zero_mul, Nat.reduceEqDiff, Nat.reduceAdd, Nat.reduceLT, Nat.reduceLeDiff, Nat.reduceMul, ↓reduceIte, reduceCtorEq]
      refine spec_JitterValid_ (L := S) (J := J) (by omega) (by omega) (Rd.own rfl) (Rd.own rfl) ?_
      simp only [hnJ, not_true_eq_false, not_false_eq_true, decide_true, decide_false, Bool.not_true, Bool.not_false, false_implies, true_implies, and_true, true_and, Bool.false_eq_true, Bool.true_eq_false, implies_true, Bool.not_not, Classical.not_not, go_sem, Int.reduceToNat, List.take_nil, Nat.zero_mul, Nat.reduceEqDiff, Nat.reduceAdd, Nat.reduceLT, Nat.reduceLeDiff, Nat.reduceMul, ↓reduceIte, reduceCtorEq]
      refine laws_alive_ ?_
      simp only [not_true_eq_false, not_false_eq_true, decide_true, decide_false, Bool.not_true, Bool.not_false, false_implies, true_implies, and_true, true_and, Bool.false_eq_true, Bool.true_eq_false, implies_true, Bool.not_not, Classical.not_not, go_sem, Int.reduceToNat, List.take_nil, Nat.zero_mul, Nat.reduceEqDiff, Nat.reduceAdd, Nat.reduceLT, Nat.reduceLeDiff, Nat.reduceMul, ↓reduceIte, reduceCtorEq]
      exact Fin.plain rfl

theorem c_FnJitterResponse (C : List Nat) (c : Nat) (hC : ∀ x ∈ C, x < 256) (_ : C.length * 1 ≤ 140737488351232) (hc : C.length ≤ c) : CallWp Try.prog n_laws_FnJitterResponse [.sl 0 0 C.length c] [.ro (encByte.row C)] (fun x _ => x = .b true) := laws_FnJitterResponse0 C hC c hc
end Go.Proofs.Ytklidlannicomaa
