/- The law FnFixedSafe answers true: over the abstract heap. -/
import Derived.Test.YtgnlibnnpipbhaaV5
import Derived.Test.YtgnlibnnpipbhaaS14
import Derived.Test.YtgnlibnnpipbhaaS20
namespace Go.Proofs.Ytgnlibnnpipbhaa
open Go.Abs Go.Ds
set_option linter.unusedSimpArgs false
set_option linter.unusedVariables false
set_option maxRecDepth 20000
set_option maxHeartbeats 2000000

theorem laws_FnFixedSafe0 (C : List Nat) (hC : ∀ x ∈ C, x < 256) (c : Nat) (hc : C.length ≤ c) : CallWp Try.prog n_laws_FnFixedSafe [.sl 0 0 C.length c] [.ro (encByte.row C)] (fun x _ => x = .b true) := by
  refine call_laws_FnFixedSafe (by simp) ?_
  simp only [c_laws_FnFixedSafe, go_sem, Int.reduceToNat, List.take_nil, Nat.zero_mul, Nat.reduceEqDiff, Nat.reduceAdd, Nat.reduceLT, Nat.reduceLeDiff, Nat.reduceMul, ↓reduceIte, reduceCtorEq]
  refine ⟨fun h => Fin.plain rfl, fun h => ?_⟩
  refine (spec_DrawRunFixed0 C hC c hc).mono ?_
  rintro x σ' _ ⟨S, O, L, cap, cap3, cap', rfl, rfl, ⟨hS8, hSw⟩, ⟨hO9, hOw⟩, hL62, hLw⟩
  simp only [go_sem, Int.reduceToNat, List.take_nil, Nat.zero_mul, Nat.reduceEqDiff, Nat.reduceAdd, Nat.reduceLT, Nat.reduceLeDiff, Nat.reduceMul, ↓reduceIte, reduceCtorEq]
  have hR := fixRun_length O L
  have hF := fixFin_length O L
  by_cases hv : ordOk S O ∧ jobsLegal S L
  · refine impl_RunFixed_ (S := S) (O := O) (L := L) (by omega) (by omega) (by omega) (Rd.own rfl) (Rd.own rfl) (Rd.own rfl) (fun hno => absurd hv hno) (fun _ c1 c2 => ?_)
    simp only [go_sem, Int.reduceToNat, List.take_nil, Nat.zero_mul, Nat.reduceEqDiff, Nat.reduceAdd, Nat.reduceLT, Nat.reduceLeDiff, Nat.reduceMul, ↓reduceIte, reduceCtorEq]
    refine spec_RunFixed_ (S := S) (O := O) (L := L) (by omega) (by omega) (by omega) (Rd.own rfl) (Rd.own rfl) (Rd.own rfl) (fun hno => absurd hv hno) (fun _ => ?_)
    rintro x τ (⟨hno, _⟩ | ⟨_, d1, d2, ⟨hne, rfl, rfl⟩ | ⟨hne, rfl, rfl⟩⟩)
    · exact absurd trivial hno
    all_goals
      simp only [go_sem, Int.reduceToNat, List.take_nil, Nat.zero_mul, Nat.reduceEqDiff, Nat.reduceAdd, Nat.reduceLT, Nat.reduceLeDiff, Nat.reduceMul, ↓reduceIte, reduceCtorEq]
      refine laws_sameSchedule_ (X1 := fixRun O L) (Y1 := fixFin O L) (X2 := fixRun O L) (Y2 := fixFin O L) (Rd.len' rfl hR) (Rd.len' rfl hF) (Rd.len' rfl hR) (by first | exact Rd.own rfl | (rw [hne]; exact Rd.none (by simp))) (by omega) (by omega) ?_
      simp only [not_true_eq_false, not_false_eq_true, decide_true, decide_false, Bool.not_true, Bool.not_false, false_implies, true_implies, and_true, true_and, Bool.false_eq_true, Bool.true_eq_false, implies_true, Bool.not_not, Classical.not_not, go_sem, Int.reduceToNat, List.take_nil, Nat.zero_mul, Nat.reduceEqDiff, Nat.reduceAdd, Nat.reduceLT, Nat.reduceLeDiff, Nat.reduceMul, ↓reduceIte, reduceCtorEq]
      refine spec_OrderValid_ (S := S) (O := O) (by omega) (by omega) (Rd.own rfl) (Rd.own rfl) ?_
      simp only [hv.1, not_true_eq_false, not_false_eq_true, decide_true, decide_false, Bool.not_true, Bool.not_false, false_implies, true_implies, and_true, true_and, Bool.false_eq_true, Bool.true_eq_false, implies_true, Bool.not_not, Classical.not_not, go_sem, Int.reduceToNat, List.take_nil, Nat.zero_mul, Nat.reduceEqDiff, Nat.reduceAdd, Nat.reduceLT, Nat.reduceLeDiff, Nat.reduceMul, ↓reduceIte, reduceCtorEq]
      refine spec_JobsLegal_ (S := S) (L := L) (by omega) (by omega) (Rd.own rfl) (Rd.own rfl) ?_
      simp only [hv.2, not_true_eq_false, not_false_eq_true, decide_true, decide_false, Bool.not_true, Bool.not_false, false_implies, true_implies, and_true, true_and, Bool.false_eq_true, Bool.true_eq_false, implies_true, Bool.not_not, Classical.not_not, go_sem, Int.reduceToNat, List.take_nil, Nat.zero_mul, Nat.reduceEqDiff, Nat.reduceAdd, Nat.reduceLT, Nat.reduceLeDiff, Nat.reduceMul, ↓reduceIte, reduceCtorEq]
      refine impl_FixedFeasible_ (S := S) (O := O) (by omega) (by omega) (Rd.own rfl) (Rd.own rfl) ?_
      by_cases hfp : fpOk S O
      · have hz := (legal_zero S L).2 hv.2
        obtain ⟨hfin, hmiss⟩ := fp_fin hz hv.1 (pick := fixPick O L) (fun _ _ => rfl) hfp.pos
        change ∀ i, i < L.length → 0 ≤ gI (fixFin O L) i → gI (fixFin O L) i - arrOf S (L.getD i default) ≤ gI (resps S (List.replicate S.length 0) O O.length) (L.getD i default).T at hfin
        change missedL L (fixFin O L) = [] at hmiss
        have hrl := resps_length S (List.replicate S.length 0) O O.length
        have hpos := hfp.pos
        simp only [hfp, not_true_eq_false, not_false_eq_true, decide_true, decide_false, Bool.not_true, Bool.not_false, false_implies, true_implies, and_true, true_and, Bool.false_eq_true, Bool.true_eq_false, implies_true, Bool.not_not, Classical.not_not, go_sem, Int.reduceToNat, List.take_nil, Nat.zero_mul, Nat.reduceEqDiff, Nat.reduceAdd, Nat.reduceLT, Nat.reduceLeDiff, Nat.reduceMul, ↓reduceIte, reduceCtorEq]
        refine impl_ResponseTimes_ (S := S) (O := O) (by omega) (by omega) (Rd.own rfl) (Rd.own rfl) (fun hno => absurd hv.1 hno) fun _ capr => ?_
        simp only [not_true_eq_false, not_false_eq_true, decide_true, decide_false, Bool.not_true, Bool.not_false, false_implies, true_implies, and_true, true_and, Bool.false_eq_true, Bool.true_eq_false, implies_true, Bool.not_not, Classical.not_not, go_sem, Int.reduceToNat, List.take_nil, Nat.zero_mul, Nat.reduceEqDiff, Nat.reduceAdd, Nat.reduceLT, Nat.reduceLeDiff, Nat.reduceMul, ↓reduceIte, reduceCtorEq]
        generalize resps S (List.replicate S.length 0) O O.length = Q at hrl hfin hpos ⊢
        refine loop_count L.length (fun k => ⟨[(5, .sl 3 0 L.length cap'), (6, .p 6 0), (7, .sl 7 0 S.length capr), (8, .i .i64 k)], [.ro (encByte.row C), .rw ty_impl_Task (encTask.row S) (cap * 3), .rw ty_int (encInt.row O) cap3, .rw ty_impl_Job (encJob.row L) (cap' * 4), .rw ty_int (encInt.row (fixRun O L)) c1, .rw ty_int (encInt.row (fixFin O L)) c2, .rw ty_impl_Schedule [.sl 4 0 120 c1, .sl 5 0 L.length c2] 2, .rw ty_int (encInt.row Q) capr]⟩)
          (fun _ => True) trivial (by first | exact Wk.pick [0, 1, 2, 3, 4, 5, 6, 9] | exact Wk.pick [0, 1, 2, 3, 4, 5, 6, 8]) fun k hk _ => ?_
        simp only [l0_laws_FnFixedSafe, not_true_eq_false, not_false_eq_true, decide_true, decide_false, Bool.not_true, Bool.not_false, false_implies, true_implies, and_true, true_and, Bool.false_eq_true, Bool.true_eq_false, implies_true, Bool.not_not, Classical.not_not, go_sem, Int.reduceToNat, List.take_nil, Nat.zero_mul, Nat.reduceEqDiff, Nat.reduceAdd, Nat.reduceLT, Nat.reduceLeDiff, Nat.reduceMul, ↓reduceIte, reduceCtorEq]
        refine ⟨fun hlt => ?_, fun hge2 => ?_⟩
        · have hkF : k < (fixFin O L).length := by omega
          have hrw := legal_row hv.2 hlt
          have hTQ : L[k].T.toNat < Q.length := by omega
          have h1 := hfin k hlt
          have harr : arrOf S L[k] = L[k].R := by
            have := hv.2.2.2.2 _ (List.getElem_mem hlt)
            unfold arrOf; omega
          rw [getD_at hlt, gI_row hkF, gI_eq hTQ, harr] at h1
          have hQ0 := hpos L[k].T hrw.1.1 hrw.1.2
          rw [gI_eq hTQ] at hQ0
          have hfb : -1 ≤ (fixFin O L)[k] ∧ (fixFin O L)[k] ≤ 120 := by
            rw [← gI_row hkF]
            rcases (runInv (fix_fair O L) (fun x hx => (hv.2.2.1.mem hx).2.2.1) 120 k hlt).fin with ⟨e, _⟩ | ⟨f, e, _, hf120, _⟩
            · change gI (fixFin O L) k = -1 at e; omega
            · change gI (fixFin O L) k = f at e; omega
          simp only [rdI hkF, rdI hTQ, rdJ0 hlt, rdJ1 hlt, lenI, lenJ, hrl, hF, not_true_eq_false, not_false_eq_true, decide_true, decide_false, Bool.not_true, Bool.not_false, false_implies, true_implies, and_true, true_and, Bool.false_eq_true, Bool.true_eq_false, implies_true, Bool.not_not, Classical.not_not, go_sem, Int.reduceToNat, List.take_nil, Nat.zero_mul, Nat.reduceEqDiff, Nat.reduceAdd, Nat.reduceLT, Nat.reduceLeDiff, Nat.reduceMul, ↓reduceIte, reduceCtorEq]
          repeat' first
            | omega
            | (exfalso; omega)
            | exact Wk.pick [0, 1, 2, 3, 4, 5, 6, 7]
            | refine ⟨?_, ?_⟩
            | intro _
        · refine impl_Missed_ (L := L) (fin := fixFin O L) (by omega) hF (Rd.own rfl) (Rd.len' rfl hF) (fun _ => ?_) (fun ne => absurd hmiss ne)
          simp only [not_true_eq_false, not_false_eq_true, decide_true, decide_false, Bool.not_true, Bool.not_false, false_implies, true_implies, and_true, true_and, Bool.false_eq_true, Bool.true_eq_false, implies_true, Bool.not_not, Classical.not_not, go_sem, Int.reduceToNat, List.take_nil, Nat.zero_mul, Nat.reduceEqDiff, Nat.reduceAdd, Nat.reduceLT, Nat.reduceLeDiff, Nat.reduceMul, ↓reduceIte, reduceCtorEq]
          exact Fin.plain rfl
      · simp only [hfp, not_true_eq_false, not_false_eq_true, decide_true, decide_false, Bool.not_true, Bool.not_false, false_implies, true_implies, and_true, true_and, Bool.false_eq_true, Bool.true_eq_false, implies_true, Bool.not_not, Classical.not_not, go_sem, Int.reduceToNat, List.take_nil, Nat.zero_mul, Nat.reduceEqDiff, Nat.reduceAdd, Nat.reduceLT, Nat.reduceLeDiff, Nat.reduceMul, ↓reduceIte, reduceCtorEq]
        refine laws_alive_ ?_
        simp only [not_true_eq_false, not_false_eq_true, decide_true, decide_false, Bool.not_true, Bool.not_false, false_implies, true_implies, and_true, true_and, Bool.false_eq_true, Bool.true_eq_false, implies_true, Bool.not_not, Classical.not_not, go_sem, Int.reduceToNat, List.take_nil, Nat.zero_mul, Nat.reduceEqDiff, Nat.reduceAdd, Nat.reduceLT, Nat.reduceLeDiff, Nat.reduceMul, ↓reduceIte, reduceCtorEq]
        exact Fin.plain rfl
  · refine impl_RunFixed_ (S := S) (O := O) (L := L) (by omega) (by omega) (by omega) (Rd.own rfl) (Rd.own rfl) (Rd.own rfl) (fun _ => ?_) (fun h => absurd h hv)
    simp only [go_sem, Int.reduceToNat, List.take_nil, Nat.zero_mul, Nat.reduceEqDiff, Nat.reduceAdd, Nat.reduceLT, Nat.reduceLeDiff, Nat.reduceMul, ↓reduceIte, reduceCtorEq]
    refine spec_RunFixed_ (S := S) (O := O) (L := L) (by omega) (by omega) (by omega) (Rd.own rfl) (Rd.own rfl) (Rd.own rfl) (fun _ => ?_) (fun h => absurd h hv)
    simp only [go_sem, Int.reduceToNat, List.take_nil, Nat.zero_mul, Nat.reduceEqDiff, Nat.reduceAdd, Nat.reduceLT, Nat.reduceLeDiff, Nat.reduceMul, ↓reduceIte, reduceCtorEq]
    refine laws_sameSchedule_ (X1 := []) (Y1 := []) (X2 := []) (Y2 := []) (Rd.none (by simp)) (Rd.none (by simp)) (Rd.none (by simp)) (Rd.none (by simp)) (by simp) (by simp) ?_
    simp only [not_true_eq_false, not_false_eq_true, decide_true, decide_false, Bool.not_true, Bool.not_false, false_implies, true_implies, and_true, true_and, Bool.false_eq_true, Bool.true_eq_false, implies_true, Bool.not_not, Classical.not_not, go_sem, Int.reduceToNat, List.take_nil, Nat.zero_mul, Nat.reduceEqDiff, Nat.reduceAdd, Nat.reduceLT, Nat.reduceLeDiff, Nat.reduceMul, ↓reduceIte, reduceCtorEq]
    refine spec_OrderValid_ (S := S) (O := O) (by omega) (by omega) (Rd.own rfl) (Rd.own rfl) ?_
    by_cases h1 : ordOk S O
    · have hnl : ¬ jobsLegal S L := fun h2 => hv ⟨h1, h2⟩
      simp only [h1, not_true_eq_false, not_false_eq_true, decide_true, decide_false, Bool.not_true, Bool.not_false, false_implies, true_implies, and_true, true_and, Bool.false_eq_true, Bool.true_eq_false, implies_true, Bool.not_not, Classical.not_not, go_sem, Int.reduceToNat, List.take_nil, Nat.zero_mul, Nat.reduceEqDiff, Nat.reduceAdd, Nat.reduceLT, Nat.reduceLeDiff, Nat.reduceMul, ↓reduceIte, reduceCtorEq]
      refine spec_JobsLegal_ (S := S) (L := L) (by omega) (by omega) (Rd.own rfl) (Rd.own rfl) ?_
      simp only [hnl, not_true_eq_false, not_false_eq_true, decide_true, decide_false, Bool.not_true, Bool.not_false, false_implies, true_implies, and_true, true_and, Bool.false_eq_true, Bool.true_eq_false, implies_true, Bool.not_not, Classical.not_not, go_sem, Int.reduceToNat, List.take_nil, Nat.zero_mul, Nat.reduceEqDiff, Nat.reduceAdd, Nat.reduceLT, Nat.reduceLeDiff, Nat.reduceMul, ↓reduceIte, reduceCtorEq]
      first | refine laws_alive_ ?_ | refine ⟨by omega, fun _ => laws_alive_ ?_, fun h => absurd (by decide) h⟩
      simp only [not_true_eq_false, not_false_eq_true, decide_true, decide_false, Bool.not_true, Bool.not_false, false_implies, true_implies, and_true, true_and, Bool.false_eq_true, Bool.true_eq_false, implies_true, Bool.not_not, Classical.not_not, go_sem, Int.reduceToNat, List.take_nil, Nat.zero_mul, Nat.reduceEqDiff, Nat.reduceAdd, Nat.reduceLT, Nat.reduceLeDiff, Nat.reduceMul, ↓reduceIte, reduceCtorEq]
      exact Fin.plain rfl
    · simp only [h1, not_true_eq_false, not_false_eq_true, decide_true, decide_false, Bool.not_true, Bool.not_false, false_implies, true_implies, and_true, true_and, Bool.false_eq_true, Bool.true_eq_false, implies_true, Bool.not_not, Classical.not_not, go_sem, Int.reduceToNat, List.take_nil, Nat.zero_mul, Nat.reduceEqDiff, Nat.reduceAdd, Nat.reduceLT, Nat.reduceLeDiff, Nat.reduceMul, ↓reduceIte, reduceCtorEq]
      first | refine laws_alive_ ?_ | refine ⟨by omega, fun _ => laws_alive_ ?_, fun h => absurd (by decide) h⟩
      simp only [not_true_eq_false, not_false_eq_true, decide_true, decide_false, Bool.not_true, Bool.not_false, false_implies, true_implies, and_true, true_and, Bool.false_eq_true, Bool.true_eq_false, implies_true, Bool.not_not, Classical.not_not, go_sem, Int.reduceToNat, List.take_nil, Nat.zero_mul, Nat.reduceEqDiff, Nat.reduceAdd, Nat.reduceLT, Nat.reduceLeDiff, Nat.reduceMul, ↓reduceIte, reduceCtorEq]
      exact Fin.plain rfl

theorem c_FnFixedSafe (C : List Nat) (c : Nat) (hC : ∀ x ∈ C, x < 256) (_ : C.length * 1 ≤ 140737488351232) (hc : C.length ≤ c) : CallWp Try.prog n_laws_FnFixedSafe [.sl 0 0 C.length c] [.ro (encByte.row C)] (fun x _ => x = .b true) := laws_FnFixedSafe0 C hC c hc
end Go.Proofs.Ytgnlibnnpipbhaa
