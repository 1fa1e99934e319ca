import Derived.Test.YtmphblbpofnpaaaV29
import Derived.Test.YtmphblbpofnpaaaV2
import Derived.Test.YtmphblbpofnpaaaM28
namespace Go.Proofs.Ytmphblbpofnpaaa
open Go.Abs Go.Ds
set_option linter.unusedSimpArgs false
set_option linter.unusedVariables false
set_option maxRecDepth 20000
set_option maxHeartbeats 4000000
def vitL (S : List MTask) : Bool := S.any fun t => t.V
theorem vitL_succ {S : List MTask} {k : Nat} (h : k < S.length) : vitL (S.take (k + 1)) = (vitL (S.take k) || S[k].V) := by
  unfold vitL; rw [List.take_succ_eq_append_getElem h, List.any_append]; simp
theorem vitL_no {S : List MTask} (h : vitL S = false) : ∀ t ∈ S, t.V = false := fun t ht => by
  unfold vitL at h
  rw [List.any_eq_false] at h
  simpa using h t ht
theorem laws_FnMixedRun0 (C : List Nat) (hC : ∀ x ∈ C, x < 256) (c : Nat) (hc : C.length ≤ c) : CallWp Try.prog n_laws_FnMixedRun [.sl 0 0 C.length c] [.ro (encByte.row C)] (fun x _ => x = .b true) := by
  refine call_laws_FnMixedRun (by simp) ?_
  simp only [c_laws_FnMixedRun, go_sem, Int.reduceToNat, List.take_nil, Nat.zero_mul, Nat.reduceEqDiff, Nat.reduceAdd, Nat.reduceLT, Nat.reduceLeDiff, Nat.reduceMul, ↓reduceIte, reduceCtorEq]
  refine ⟨fun h => Fin.plain rfl, fun h => ?_⟩
  refine (spec_DrawRunMixed0 C hC c hc).mono ?_
  rintro x σ' _ ⟨S, L, cap, cap', rfl, rfl, hS8, hL62⟩
  simp only [go_sem, Int.reduceToNat, List.take_nil, Nat.zero_mul, Nat.reduceEqDiff, Nat.reduceAdd, Nat.reduceLT, Nat.reduceLeDiff, Nat.reduceMul, ↓reduceIte, reduceCtorEq]
  obtain ⟨nu, de, hsc⟩ := scale_any S
  have hR := mixRun_length S nu de L
  have hF := mixFin_length S nu de L
  by_cases hv : mixRunOk S L nu de
  · refine impl_RunMixed_ (S := S) (L := L) hsc (by omega) (by omega) (Rd.own rfl) (Rd.own rfl) (fun hno => absurd hv hno) (fun _ c1 c2 => ?_)
    simp only [go_sem, Int.reduceToNat, List.take_nil, Nat.zero_mul, Nat.reduceEqDiff, Nat.reduceAdd, Nat.reduceLT, Nat.reduceLeDiff, Nat.reduceMul, ↓reduceIte, reduceCtorEq]
    refine spec_RunMixed_ (S := S) (L := L) hsc (by omega) (by omega) (Rd.own rfl) (Rd.own rfl) (fun hno => absurd hv hno) (fun _ => ?_)
    rintro x τ (⟨hno, _⟩ | ⟨_, d1, d2, ⟨hne, rfl, rfl⟩ | ⟨hne, rfl, rfl⟩⟩)
    · exact absurd trivial hno
    all_goals
      simp only [go_sem, Int.reduceToNat, List.take_nil, Nat.zero_mul, Nat.reduceEqDiff, Nat.reduceAdd, Nat.reduceLT, Nat.reduceLeDiff, Nat.reduceMul, ↓reduceIte, reduceCtorEq]
      refine laws_sameMixed_ (X1 := mixRun S nu de L) (Y1 := mixFin S nu de L) (X2 := mixRun S nu de L) (Y2 := mixFin S nu de L) (Rd.len' rfl hR) (Rd.len' rfl hF) (Rd.len' rfl hR) (by first | exact Rd.own rfl | (rw [hne]; exact Rd.none (by simp))) (by omega) (by omega) ?_
      simp only [not_true_eq_false, not_false_eq_true, decide_true, decide_false, Bool.not_true, Bool.not_false, false_implies, true_implies, and_true, true_and, Bool.false_eq_true, Bool.true_eq_false, implies_true, Bool.not_not, Classical.not_not, go_sem, Int.reduceToNat, List.take_nil, Nat.zero_mul, Nat.reduceEqDiff, Nat.reduceAdd, Nat.reduceLT, Nat.reduceLeDiff, Nat.reduceMul, ↓reduceIte, reduceCtorEq]
      refine ⟨fun h => absurd rfl h, fun _ => ?_⟩
      refine loop_count 120 (fun k => ⟨[(3, .sl 1 0 S.length cap), (4, .sl 2 0 L.length cap'), (5, .p 5 0), (6, .i .i64 k)], [.ro (encByte.row C), .rw ty_impl_MixedTask (encMT.row S) (cap * 4), .rw ty_impl_Job (encJob.row L) (cap' * 4), .rw ty_int (encInt.row (mixRun S nu de L)) c1, .rw ty_int (encInt.row (mixFin S nu de L)) c2, .rw ty_impl_MixedRun [.sl 3 0 120 c1, .sl 4 0 L.length c2, .i .i64 (mixSw S nu de L)] 3]⟩)
        (fun _ => True) trivial (Wk.pick [0, 1, 2, 3, 4, 5]) fun k hk _ => ?_
      simp only [l2_laws_FnMixedRun, not_true_eq_false, not_false_eq_true, decide_true, decide_false, Bool.not_true, Bool.not_false, false_implies, true_implies, and_true, true_and, Bool.false_eq_true, Bool.true_eq_false, implies_true, Bool.not_not, Classical.not_not, go_sem, Int.reduceToNat, List.take_nil, Nat.zero_mul, Nat.reduceEqDiff, Nat.reduceAdd, Nat.reduceLT, Nat.reduceLeDiff, Nat.reduceMul, ↓reduceIte, reduceCtorEq]
      refine ⟨fun hl => ?_, fun hl => ?_⟩
      · have hkR : k < (mixRun S nu de L).length := by omega
        rcases mix_tick (S := S) (nu := nu) (de := de) (L := L) (show k < 120 by omega) hkR with ⟨e, f1, f2⟩ | ⟨n, hn, e, f1, f2, f3⟩
        · simp only [rdI hkR, e, lenI, hR, hF, not_true_eq_false, not_false_eq_true, decide_true, decide_false, Bool.not_true, Bool.not_false, false_implies, true_implies, and_true, true_and, Bool.false_eq_true, Bool.true_eq_false, implies_true, Bool.not_not, Classical.not_not, go_sem, Int.reduceToNat, List.take_nil, Nat.zero_mul, Nat.reduceEqDiff, Nat.reduceAdd, Nat.reduceLT, Nat.reduceLeDiff, Nat.reduceMul, ↓reduceIte, reduceCtorEq]
          repeat' first | omega | (exfalso; omega) | exact Wk.pick [0, 1, 2, 3, 4, 5] | refine ⟨?_, ?_⟩ | intro _
        · simp only [rdI hkR, e, lenI, hR, hF, Int.toNat_natCast, rdJ1 hn, lenJ, not_true_eq_false, not_false_eq_true, decide_true, decide_false, Bool.not_true, Bool.not_false, false_implies, true_implies, and_true, true_and, Bool.false_eq_true, Bool.true_eq_false, implies_true, Bool.not_not, Classical.not_not, go_sem, Int.reduceToNat, List.take_nil, Nat.zero_mul, Nat.reduceEqDiff, Nat.reduceAdd, Nat.reduceLT, Nat.reduceLeDiff, Nat.reduceMul, ↓reduceIte, reduceCtorEq]
          repeat' first | omega | (exfalso; omega) | exact Wk.pick [0, 1, 2, 3, 4, 5] | refine ⟨?_, ?_⟩ | intro _
      · refine loop_intro (fun i : Nat × Nat => ⟨[(3, .sl 1 0 S.length cap), (4, .sl 2 0 L.length cap'), (5, .p 5 0), (7, .b (vitL (S.take i.1))), (8, .sl 6 0 i.1 i.2), (9, .i .i64 i.1)], [.ro (encByte.row C), .rw ty_impl_MixedTask (encMT.row S) (cap * 4), .rw ty_impl_Job (encJob.row L) (cap' * 4), .rw ty_int (encInt.row (mixRun S nu de L)) c1, .rw ty_int (encInt.row (mixFin S nu de L)) c2, .rw ty_impl_MixedRun [.sl 3 0 120 c1, .sl 4 0 L.length c2, .i .i64 (mixSw S nu de L)] 3, .rw ty_impl_Task (encTask.row (lowS (S.take i.1))) (i.2 * 3)]⟩)
          (fun i => i.1 ≤ S.length ∧ i.1 ≤ i.2) (fun i => S.length - i.1) (0, 0) ⟨by simp only; omega, by simp only; omega⟩ (by rw [show vitL (S.take 0) = false from rfl]; exact Wk.pick [0, 1, 2, 3, 4, 5, 6]) ?_
        rintro ⟨k, cp⟩ ⟨hk1, hk2⟩
        simp only at hk1 hk2
        simp only [l1_laws_FnMixedRun, not_true_eq_false, not_false_eq_true, decide_true, decide_false, Bool.not_true, Bool.not_false, false_implies, true_implies, and_true, true_and, Bool.false_eq_true, Bool.true_eq_false, implies_true, Bool.not_not, Classical.not_not, go_sem, Int.reduceToNat, List.take_nil, Nat.zero_mul, Nat.reduceEqDiff, Nat.reduceAdd, Nat.reduceLT, Nat.reduceLeDiff, Nat.reduceMul, ↓reduceIte, reduceCtorEq]
        refine ⟨fun hlt => ?_, fun hge => ?_⟩
        · have e1 : (S.take k).length = k := by rw [List.length_take]; omega
          have e2 : (lowS (S.take k)).length = k := by rw [lowS_len, e1]
          have e3 : lowS (S.take (k + 1)) = lowS (S.take k) ++ [⟨S[k].Lo, S[k].P, S[k].P⟩] := by
            rw [List.take_succ_eq_append_getElem hlt]; unfold lowS; rw [List.map_append]; rfl
          have e4 : List.take (k * 3) (encTask.row (lowS (S.take k))) = encTask.row (lowS (S.take k)) := by have := takeT (lowS (S.take k)); rwa [e2] at this
          simp only [rdM0 hlt, rdM2 hlt, rdM3 hlt, lenM, lenT, e2, e4, appT, not_true_eq_false, not_false_eq_true, decide_true, decide_false, Bool.not_true, Bool.not_false, false_implies, true_implies, and_true, true_and, Bool.false_eq_true, Bool.true_eq_false, implies_true, Bool.not_not, Classical.not_not, go_sem, Int.reduceToNat, List.take_nil, Nat.zero_mul, Nat.reduceEqDiff, Nat.reduceAdd, Nat.reduceLT, Nat.reduceLeDiff, Nat.reduceMul, ↓reduceIte, reduceCtorEq]
          have hvs := vitL_succ hlt
          refine bc_of (fun hb => ?_) (fun hb => ?_)
          · rw [hb, Bool.true_or] at hvs
            iterate 8 refine ⟨by omega, ?_⟩
            intro cp' hcp
            refine ⟨by omega, by omega, (k + 1, cp'), ⟨⟨by simp only; omega, by simp only; omega⟩, by simp only; omega⟩, ?_⟩
            simp only [e3, hvs, show ((k + 1 : Nat) : Int) = (k : Int) + 1 from by omega]
            exact Wk.pick [0, 1, 2, 3, 4, 5, 8]
          · rw [hb, Bool.false_or] at hvs
            iterate 10 refine ⟨by omega, ?_⟩
            intro cp' hcp
            refine ⟨by omega, by omega, (k + 1, cp'), ⟨⟨by simp only; omega, by simp only; omega⟩, by simp only; omega⟩, ?_⟩
            simp only [e3, hvs, show ((k + 1 : Nat) : Int) = (k : Int) + 1 from by omega]
            exact Wk.pick [0, 1, 2, 3, 4, 5, 8]
        · have ek : k = S.length := by omega
          subst ek
          rw [List.take_length]
          refine loop_count L.length (fun k => ⟨[(4, .sl 2 0 L.length cap'), (5, .p 5 0), (7, .b (vitL S)), (8, .sl 6 0 S.length cp), (10, .i .i64 k)], [.ro (encByte.row C), .rw ty_impl_MixedTask (encMT.row S) (cap * 4), .rw ty_impl_Job (encJob.row L) (cap' * 4), .rw ty_int (encInt.row (mixRun S nu de L)) c1, .rw ty_int (encInt.row (mixFin S nu de L)) c2, .rw ty_impl_MixedRun [.sl 3 0 120 c1, .sl 4 0 L.length c2, .i .i64 (mixSw S nu de L)] 3, .rw ty_impl_Task (encTask.row (lowS S)) (cp * 3)]⟩)
            (fun _ => True) trivial (Wk.pick [0, 1, 2, 3, 4, 5, 6]) fun k hk _ => ?_
          simp only [l0_laws_FnMixedRun, not_true_eq_false, not_false_eq_true, decide_true, decide_false, Bool.not_true, Bool.not_false, false_implies, true_implies, and_true, true_and, Bool.false_eq_true, Bool.true_eq_false, implies_true, Bool.not_not, Classical.not_not, go_sem, Int.reduceToNat, List.take_nil, Nat.zero_mul, Nat.reduceEqDiff, Nat.reduceAdd, Nat.reduceLT, Nat.reduceLeDiff, Nat.reduceMul, ↓reduceIte, reduceCtorEq]
          refine ⟨fun hl => ?_, fun hl => ?_⟩
          · refine laws_ticks_ (k : Int) (by omega) (Rd.len' rfl hR) ?_
            have hkF : k < (mixFin S nu de L).length := by omega
            obtain ⟨g1, g2⟩ := mix_job hv.2 hl hkF
            simp only [rdI hkF, rdJ3 hl, lenI, lenJ, hR, hF, not_true_eq_false, not_false_eq_true, decide_true, decide_false, Bool.not_true, Bool.not_false, false_implies, true_implies, and_true, true_and, Bool.false_eq_true, Bool.true_eq_false, implies_true, Bool.not_not, Classical.not_not, go_sem, Int.reduceToNat, List.take_nil, Nat.zero_mul, Nat.reduceEqDiff, Nat.reduceAdd, Nat.reduceLT, Nat.reduceLeDiff, Nat.reduceMul, ↓reduceIte, reduceCtorEq]
            repeat' first | omega | (exfalso; omega) | exact Wk.pick [0, 1, 2, 3, 4, 5, 6] | refine ⟨?_, ?_⟩ | intro _
          · have hsl := lowS_len S
            have hfinV : vitL S = false → edfRun L = mixRun S nu de L ∧ edfFin L = mixFin S nu de L := fun hb => by
              have := mix_edf (nu := nu) (de := de) hv.2 (scaleR_bound hv.1).2.2.1 (vitL_no hb)
              exact ⟨this.1.symm, this.2.symm⟩
            have h60 := hv.2.2.1.1
            have h5 := hv.2.1.1
            refine impl_RunEdf_ (S := lowS S) (L := L) (by omega) (by omega) (Rd.own' rfl hsl) (Rd.own rfl) (fun hno => ?_) (fun hyes e1 e2 => ?_)
            · cases hb : vitL S with
              | false => exact absurd (lowS_legal hv.2 (vitL_no hb)) hno
              | true =>
                simp only [not_true_eq_false, not_false_eq_true, decide_true, decide_false, Bool.not_true, Bool.not_false, false_implies, true_implies, and_true, true_and, Bool.false_eq_true, Bool.true_eq_false, implies_true, Bool.not_not, Classical.not_not, go_sem, Int.reduceToNat, List.take_nil, Nat.zero_mul, Nat.reduceEqDiff, Nat.reduceAdd, Nat.reduceLT, Nat.reduceLeDiff, Nat.reduceMul, ↓reduceIte, reduceCtorEq]
                exact Fin.plain rfl
            · cases hb : vitL S with
              | true =>
                simp only [not_true_eq_false, not_false_eq_true, decide_true, decide_false, Bool.not_true, Bool.not_false, false_implies, true_implies, and_true, true_and, Bool.false_eq_true, Bool.true_eq_false, implies_true, Bool.not_not, Classical.not_not, go_sem, Int.reduceToNat, List.take_nil, Nat.zero_mul, Nat.reduceEqDiff, Nat.reduceAdd, Nat.reduceLT, Nat.reduceLeDiff, Nat.reduceMul, ↓reduceIte, reduceCtorEq]
                exact Fin.plain rfl
              | false =>
                have hER := edfRun_length L
                have hEF := edfFin_length L
                obtain ⟨q1, q2⟩ := hfinV hb
                simp only [not_true_eq_false, not_false_eq_true, decide_true, decide_false, Bool.not_true, Bool.not_false, false_implies, true_implies, and_true, true_and, Bool.false_eq_true, Bool.true_eq_false, implies_true, Bool.not_not, Classical.not_not, go_sem, Int.reduceToNat, List.take_nil, Nat.zero_mul, Nat.reduceEqDiff, Nat.reduceAdd, Nat.reduceLT, Nat.reduceLeDiff, Nat.reduceMul, ↓reduceIte, reduceCtorEq]
                refine laws_sameInts_ (L := edfRun L) (M := mixRun S nu de L) (by omega) (Rd.len' rfl hER) (Rd.len' rfl hR) ?_
                rw [decide_eq_true q1]
                simp only [not_true_eq_false, not_false_eq_true, decide_true, decide_false, Bool.not_true, Bool.not_false, false_implies, true_implies, and_true, true_and, Bool.false_eq_true, Bool.true_eq_false, implies_true, Bool.not_not, Classical.not_not, go_sem, Int.reduceToNat, List.take_nil, Nat.zero_mul, Nat.reduceEqDiff, Nat.reduceAdd, Nat.reduceLT, Nat.reduceLeDiff, Nat.reduceMul, ↓reduceIte, reduceCtorEq]
                refine laws_sameInts_ (L := edfFin L) (M := mixFin S nu de L) (by omega) (Rd.len' rfl hEF) (Rd.len' rfl hF) ?_
                rw [decide_eq_true q2]
                simp only [not_true_eq_false, not_false_eq_true, decide_true, decide_false, Bool.not_true, Bool.not_false, false_implies, true_implies, and_true, true_and, Bool.false_eq_true, Bool.true_eq_false, implies_true, Bool.not_not, Classical.not_not, go_sem, Int.reduceToNat, List.take_nil, Nat.zero_mul, Nat.reduceEqDiff, Nat.reduceAdd, Nat.reduceLT, Nat.reduceLeDiff, Nat.reduceMul, ↓reduceIte, reduceCtorEq]
                exact Fin.plain rfl
  · refine impl_RunMixed_ (S := S) (L := L) hsc (by omega) (by omega) (Rd.own rfl) (Rd.own rfl) (fun _ => ?_) (fun h => absurd h hv)
    simp only [go_sem, Int.reduceToNat, List.take_nil, Nat.zero_mul, Nat.reduceEqDiff, Nat.reduceAdd, Nat.reduceLT, Nat.reduceLeDiff, Nat.reduceMul, ↓reduceIte, reduceCtorEq]
    refine spec_RunMixed_ (S := S) (L := L) hsc (by omega) (by omega) (Rd.own rfl) (Rd.own rfl) (fun _ => ?_) (fun h => absurd h hv)
    simp only [go_sem, Int.reduceToNat, List.take_nil, Nat.zero_mul, Nat.reduceEqDiff, Nat.reduceAdd, Nat.reduceLT, Nat.reduceLeDiff, Nat.reduceMul, ↓reduceIte, reduceCtorEq]
    refine laws_sameMixed_ (X1 := []) (Y1 := []) (X2 := []) (Y2 := []) (Rd.none (by simp)) (Rd.none (by simp)) (Rd.none (by simp)) (Rd.none (by simp)) (by simp) (by simp) ?_
    simp only [not_true_eq_false, not_false_eq_true, decide_true, decide_false, Bool.not_true, Bool.not_false, false_implies, true_implies, and_true, true_and, Bool.false_eq_true, Bool.true_eq_false, implies_true, Bool.not_not, Classical.not_not, go_sem, Int.reduceToNat, List.take_nil, Nat.zero_mul, Nat.reduceEqDiff, Nat.reduceAdd, Nat.reduceLT, Nat.reduceLeDiff, Nat.reduceMul, ↓reduceIte, reduceCtorEq]
    refine ⟨fun _ => laws_alive_ ?_, fun h => absurd h (by decide)⟩
    simp only [not_true_eq_false, not_false_eq_true, decide_true, decide_false, Bool.not_true, Bool.not_false, false_implies, true_implies, and_true, true_and, Bool.false_eq_true, Bool.true_eq_false, implies_true, Bool.not_not, Classical.not_not, go_sem, Int.reduceToNat, List.take_nil, Nat.zero_mul, Nat.reduceEqDiff, Nat.reduceAdd, Nat.reduceLT, Nat.reduceLeDiff, Nat.reduceMul, ↓reduceIte, reduceCtorEq]
    exact Fin.plain rfl
theorem c_FnMixedRun (C : List Nat) (c : Nat) (hC : ∀ x ∈ C, x < 256) (_ : C.length * 1 ≤ 140737488351232) (hc : C.length ≤ c) : CallWp Try.prog n_laws_FnMixedRun [.sl 0 0 C.length c] [.ro (encByte.row C)] (fun x _ => x = .b true) := laws_FnMixedRun0 C hC c hc
end Go.Proofs.Ytmphblbpofnpaaa
