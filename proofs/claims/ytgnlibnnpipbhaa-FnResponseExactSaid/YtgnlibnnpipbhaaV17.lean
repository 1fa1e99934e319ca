/- The law FnResponseExact answers true: over the abstract heap. -/
import Derived.Test.YtgnlibnnpipbhaaE7
import Derived.Test.YtgnlibnnpipbhaaV5
import Derived.Test.YtgnlibnnpipbhaaS21
import Derived.Test.YtgnlibnnpipbhaaS22
import Derived.Test.YtgnlibnnpipbhaaM17
namespace Go.Proofs.Ytgnlibnnpipbhaa
open Go.Abs Go.Ds
set_option linter.unusedSimpArgs false
set_option linter.unusedVariables false
set_option maxRecDepth 20000
set_option maxHeartbeats 2000000

theorem spec_DrawResponseTimes0 (C : List Nat) (hC : ∀ x ∈ C, x < 256) (c : Nat) (hc : C.length ≤ c) : CallWp Try.prog n_spec_DrawResponseTimes [.sl 0 0 C.length c] [.ro (encByte.row C)] (fun x σ' => ∃ (S : List Task) (O : List Int) (cap cap3 : Nat),
    x = .tup [.sl 1 0 S.length cap, .sl 2 0 O.length cap3] ∧ σ' = [.ro (encByte.row C), .rw ty_impl_Task (encTask.row S) (cap * 3), .rw ty_int (encInt.row O) cap3] ∧ S.length ≤ 8 ∧ O.length ≤ 9) := by
  refine call_spec_DrawResponseTimes (by simp) ?_
  simp only [c_spec_DrawResponseTimes, go_sem, Int.reduceToNat, List.take_nil, Nat.zero_mul, Nat.reduceEqDiff, Nat.reduceAdd, Nat.reduceLT, Nat.reduceLeDiff, Nat.reduceMul, ↓reduceIte, reduceCtorEq]
  refine (spec_l20Open0 C c hc).mono ?_
  rintro x σ' _ ⟨rfl, rfl⟩
  simp only [go_sem, Int.reduceToNat, List.take_nil, Nat.zero_mul, Nat.reduceEqDiff, Nat.reduceAdd, Nat.reduceLT, Nat.reduceLeDiff, Nat.reduceMul, ↓reduceIte, reduceCtorEq]
  refine spec_l20Set_ (Rdr.take (τ := [])) (Code.take hC) (by omega) _ (by omega) fun S cap p1 h11 h12 hS8 hS _ => ?_
  simp only [go_sem, Int.reduceToNat, List.take_nil, Nat.zero_mul, Nat.reduceEqDiff, Nat.reduceAdd, Nat.reduceLT, Nat.reduceLeDiff, Nat.reduceMul, ↓reduceIte, reduceCtorEq]
  refine spec_l20Order_ (Rdr.take (τ := [_])) (Code.take hC) (by omega) _ (by omega) _ (by omega) fun O cap3 p3 h31 h32 hO9 hO => ?_
  simp only [go_sem, Int.reduceToNat, List.take_nil, Nat.zero_mul, Nat.reduceEqDiff, Nat.reduceAdd, Nat.reduceLT, Nat.reduceLeDiff, Nat.reduceMul, ↓reduceIte, reduceCtorEq]
  exact Fin.pick [0, 2, 3] (.tup [.sl 1 0 S.length cap, .sl 2 0 O.length cap3]) _ ⟨S, O, cap, cap3, rfl, rfl, hS8, hO9⟩

theorem laws_FnResponseExact0 (C : List Nat) (hC : ∀ x ∈ C, x < 256) (c : Nat) (hc : C.length ≤ c) : CallWp Try.prog n_laws_FnResponseExact [.sl 0 0 C.length c] [.ro (encByte.row C)] (fun x _ => x = .b true) := by
  refine call_laws_FnResponseExact (by simp) ?_
  simp only [c_laws_FnResponseExact, go_sem, Int.reduceToNat, List.take_nil, Nat.zero_mul, Nat.reduceEqDiff, Nat.reduceAdd, Nat.reduceLT, Nat.reduceLeDiff, Nat.reduceMul, ↓reduceIte, reduceCtorEq]
  refine ⟨fun h => Fin.plain rfl, fun h => ?_⟩
  refine (spec_DrawResponseTimes0 C hC c hc).mono ?_
  rintro x σ' _ ⟨S, O, cap, cap3, rfl, rfl, hS8, hO9⟩
  simp only [go_sem, Int.reduceToNat, List.take_nil, Nat.zero_mul, Nat.reduceEqDiff, Nat.reduceAdd, Nat.reduceLT, Nat.reduceLeDiff, Nat.reduceMul, ↓reduceIte, reduceCtorEq]
  by_cases hO : ordOk S O
  · have hQl := resps_length S (List.replicate S.length 0) O O.length
    refine impl_ResponseTimes_ (S := S) (O := O) (by omega) (by omega) (Rd.own rfl) (Rd.own rfl) (fun hno => absurd hO hno) (fun _ d1 => ?_)
    simp only [go_sem, Int.reduceToNat, List.take_nil, Nat.zero_mul, Nat.reduceEqDiff, Nat.reduceAdd, Nat.reduceLT, Nat.reduceLeDiff, Nat.reduceMul, ↓reduceIte, reduceCtorEq]
    refine spec_ResponseTimes_ (S := S) (O := O) (by omega) (by omega) (Rd.own rfl) (Rd.own rfl) (fun hno => absurd hO hno) (fun _ d2 => ?_)
    simp only [go_sem, Int.reduceToNat, List.take_nil, Nat.zero_mul, Nat.reduceEqDiff, Nat.reduceAdd, Nat.reduceLT, Nat.reduceLeDiff, Nat.reduceMul, ↓reduceIte, reduceCtorEq]
    refine laws_sameInts_ (by omega) (Rd.len' rfl hQl) (Rd.len' rfl hQl) ?_
    simp only [not_true_eq_false, not_false_eq_true, decide_true, decide_false, Bool.not_true, Bool.not_false, false_implies, true_implies, and_true, true_and, Bool.false_eq_true, Bool.true_eq_false, implies_true, Bool.not_not, Classical.not_not, go_sem, Int.reduceToNat, List.take_nil, Nat.zero_mul, Nat.reduceEqDiff, Nat.reduceAdd, Nat.reduceLT, Nat.reduceLeDiff, Nat.reduceMul, ↓reduceIte, reduceCtorEq]
    refine spec_OrderValid_ (S := S) (O := O) (by omega) (by omega) (Rd.own rfl) (Rd.own rfl) ?_
    simp only [hO, not_true_eq_false, not_false_eq_true, decide_true, decide_false, Bool.not_true, Bool.not_false, false_implies, true_implies, and_true, true_and, Bool.false_eq_true, Bool.true_eq_false, implies_true, Bool.not_not, Classical.not_not, go_sem, Int.reduceToNat, List.take_nil, Nat.zero_mul, Nat.reduceEqDiff, Nat.reduceAdd, Nat.reduceLT, Nat.reduceLeDiff, Nat.reduceMul, ↓reduceIte, reduceCtorEq]
    refine impl_FixedFeasible_ (S := S) (O := O) (by omega) (by omega) (Rd.own rfl) (Rd.own rfl) ?_
    by_cases hfp : fpOk S O
    · have hex := fp_exact hO (pick := fixPick O (sync S 60 60)) (fun _ _ => rfl) hfp.pos
      have hL := sync_legal hO.1 (show (60 : Int) ≤ 120 by omega) 60
      have h60 := sync_60 S 60 60
      simp only [hfp, not_true_eq_false, not_false_eq_true, decide_true, decide_false, Bool.not_true, Bool.not_false, false_implies, true_implies, and_true, true_and, Bool.false_eq_true, Bool.true_eq_false, implies_true, Bool.not_not, Classical.not_not, go_sem, Int.reduceToNat, List.take_nil, Nat.zero_mul, Nat.reduceEqDiff, Nat.reduceAdd, Nat.reduceLT, Nat.reduceLeDiff, Nat.reduceMul, ↓reduceIte, reduceCtorEq]
      refine impl_Synchronous_ (S := S) (lim := 60) (by omega) (Rd.own rfl) (fun hno => ?_) (fun _ hne cS => ?_)
      · have e : sync S 60 60 = [] := hno.resolve_left fun hn => hn ⟨hO.1, by omega, by omega⟩
        rw [e] at hL
        simp only [not_true_eq_false, not_false_eq_true, decide_true, decide_false, Bool.not_true, Bool.not_false, false_implies, true_implies, and_true, true_and, Bool.false_eq_true, Bool.true_eq_false, implies_true, Bool.not_not, Classical.not_not, go_sem, Int.reduceToNat, List.take_nil, Nat.zero_mul, Nat.reduceEqDiff, Nat.reduceAdd, Nat.reduceLT, Nat.reduceLeDiff, Nat.reduceMul, ↓reduceIte, reduceCtorEq]
        refine impl_RunFixed_ (S := S) (O := O) (L := []) (by omega) (by omega) (by simp) (Rd.own rfl) (Rd.own rfl) (Rd.none (by simp)) (fun hno => absurd ⟨hO, hL⟩ hno) (fun _ c3 c4 => ?_)
        simp only [not_true_eq_false, not_false_eq_true, decide_true, decide_false, Bool.not_true, Bool.not_false, false_implies, true_implies, and_true, true_and, Bool.false_eq_true, Bool.true_eq_false, implies_true, Bool.not_not, Classical.not_not, go_sem, Int.reduceToNat, List.take_nil, Nat.zero_mul, Nat.reduceEqDiff, Nat.reduceAdd, Nat.reduceLT, Nat.reduceLeDiff, Nat.reduceMul, ↓reduceIte, reduceCtorEq]
        refine ⟨fun h => absurd rfl h, fun _ => ?_⟩
        refine loop_count 0 (fun i => ⟨[(6, .sn), (8, .i .i64 i)], [.ro (encByte.row C)]⟩) (fun _ => True) trivial (Wk.pick [0]) fun i hi _ => ?_
        simp only [l0_laws_FnResponseExact, not_true_eq_false, not_false_eq_true, decide_true, decide_false, Bool.not_true, Bool.not_false, false_implies, true_implies, and_true, true_and, Bool.false_eq_true, Bool.true_eq_false, implies_true, Bool.not_not, Classical.not_not, go_sem, Int.reduceToNat, List.take_nil, Nat.zero_mul, Nat.reduceEqDiff, Nat.reduceAdd, Nat.reduceLT, Nat.reduceLeDiff, Nat.reduceMul, ↓reduceIte, reduceCtorEq]
        exact ⟨fun hlt => absurd hlt (by omega), fun _ => Fin.plain rfl⟩
      · simp only [show (60 : Int).toNat = 60 from rfl] at hne ⊢
        have hFl := fixFin_length O (sync S 60 60)
        change ∀ j, j < (sync S 60 60).length → 0 ≤ gI (fixFin O (sync S 60 60)) j ∧ gI (fixFin O (sync S 60 60)) j ≤ 60 ∧ gI (fixFin O (sync S 60 60)) j - ((sync S 60 60).getD j default).R ≤ gI (resps S (List.replicate S.length 0) O O.length) ((sync S 60 60).getD j default).T ∧
          (((sync S 60 60).getD j default).R = 0 → gI (fixFin O (sync S 60 60)) j = gI (resps S (List.replicate S.length 0) O O.length) ((sync S 60 60).getD j default).T) at hex
        generalize sync S 60 60 = L at *
        simp only [not_true_eq_false, not_false_eq_true, decide_true, decide_false, Bool.not_true, Bool.not_false, false_implies, true_implies, and_true, true_and, Bool.false_eq_true, Bool.true_eq_false, implies_true, Bool.not_not, Classical.not_not, go_sem, Int.reduceToNat, List.take_nil, Nat.zero_mul, Nat.reduceEqDiff, Nat.reduceAdd, Nat.reduceLT, Nat.reduceLeDiff, Nat.reduceMul, ↓reduceIte, reduceCtorEq]
        refine impl_RunFixed_ (S := S) (O := O) (L := L) (by omega) (by omega) (by omega) (Rd.own rfl) (Rd.own rfl) (Rd.own rfl) (fun hno => absurd ⟨hO, hL⟩ hno) (fun _ c3 c4 => ?_)
        simp only [not_true_eq_false, not_false_eq_true, decide_true, decide_false, Bool.not_true, Bool.not_false, false_implies, true_implies, and_true, true_and, Bool.false_eq_true, Bool.true_eq_false, implies_true, Bool.not_not, Classical.not_not, go_sem, Int.reduceToNat, List.take_nil, Nat.zero_mul, Nat.reduceEqDiff, Nat.reduceAdd, Nat.reduceLT, Nat.reduceLeDiff, Nat.reduceMul, ↓reduceIte, reduceCtorEq]
        generalize resps S (List.replicate S.length 0) O O.length = Q at *
        refine loop_count L.length (fun i => ⟨[(5, .sl 3 0 S.length d1), (6, .sl 5 0 L.length L.length), (7, .p 8 0), (8, .i .i64 i)], [.ro (encByte.row C), .rw ty_impl_Task (encTask.row S) (cap * 3), .rw ty_int (encInt.row O) cap3, .rw ty_int (encInt.row Q) d1, .rw ty_int (encInt.row Q) d2, .rw ty_impl_Job (encJob.row L) cS, .rw ty_int (encInt.row (fixRun O L)) c3, .rw ty_int (encInt.row (fixFin O L)) c4, .rw ty_impl_Schedule [.sl 6 0 120 c3, .sl 7 0 L.length c4] 2]⟩)
          (fun _ => True) trivial (Wk.pick [0, 1, 2, 3, 4, 5, 6, 7, 8]) fun i hi _ => ?_
        simp only [l0_laws_FnResponseExact, not_true_eq_false, not_false_eq_true, decide_true, decide_false, Bool.not_true, Bool.not_false, false_implies, true_implies, and_true, true_and, Bool.false_eq_true, Bool.true_eq_false, implies_true, Bool.not_not, Classical.not_not, go_sem, Int.reduceToNat, List.take_nil, Nat.zero_mul, Nat.reduceEqDiff, Nat.reduceAdd, Nat.reduceLT, Nat.reduceLeDiff, Nat.reduceMul, ↓reduceIte, reduceCtorEq]
        refine ⟨fun hlt => ?_, fun _ => Fin.plain rfl⟩
        have hkF : i < (fixFin O L).length := by omega
        have hrw := legal_row hL hlt
        have hTQ : L[i].T.toNat < Q.length := by omega
        obtain ⟨x1, x2, x3, x4⟩ := hex i hlt
        have gL : L.getD i default = L[i] := by simp [List.getD_eq_getElem?_getD, hlt]
        rw [gL, gI_row hkF, gI_eq hTQ] at x3 x4
        rw [gI_row hkF] at x1 x2
        simp only [rdI hkF, rdI hTQ, rdJ0 hlt, rdJ1 hlt, lenI, lenJ, hFl, hQl, not_true_eq_false, not_false_eq_true, decide_true, decide_false, Bool.not_true, Bool.not_false, false_implies, true_implies, and_true, true_and, Bool.false_eq_true, Bool.true_eq_false, implies_true, Bool.not_not, Classical.not_not, go_sem, Int.reduceToNat, List.take_nil, Nat.zero_mul, Nat.reduceEqDiff, Nat.reduceAdd, Nat.reduceLT, Nat.reduceLeDiff, Nat.reduceMul, ↓reduceIte, reduceCtorEq]
        repeat' first
          | omega
          | (exfalso; omega)
          | exact Wk.pick [0, 1, 2, 3, 4, 5, 6, 7, 8]
          | refine ⟨?_, ?_⟩
          | intro _
    · simp only [hfp, not_true_eq_false, not_false_eq_true, decide_true, decide_false, Bool.not_true, Bool.not_false, false_implies, true_implies, and_true, true_and, Bool.false_eq_true, Bool.true_eq_false, implies_true, Bool.not_not, Classical.not_not, go_sem, Int.reduceToNat, List.take_nil, Nat.zero_mul, Nat.reduceEqDiff, Nat.reduceAdd, Nat.reduceLT, Nat.reduceLeDiff, Nat.reduceMul, ↓reduceIte, reduceCtorEq]
      refine laws_alive_ ?_
      simp only [not_true_eq_false, not_false_eq_true, decide_true, decide_false, Bool.not_true, Bool.not_false, false_implies, true_implies, and_true, true_and, Bool.false_eq_true, Bool.true_eq_false, implies_true, Bool.not_not, Classical.not_not, go_sem, Int.reduceToNat, List.take_nil, Nat.zero_mul, Nat.reduceEqDiff, Nat.reduceAdd, Nat.reduceLT, Nat.reduceLeDiff, Nat.reduceMul, ↓reduceIte, reduceCtorEq]
      exact Fin.plain rfl
  · refine impl_ResponseTimes_ (S := S) (O := O) (by omega) (by omega) (Rd.own rfl) (Rd.own rfl) (fun _ => ?_) (fun h1 => absurd h1 hO)
    simp only [go_sem, Int.reduceToNat, List.take_nil, Nat.zero_mul, Nat.reduceEqDiff, Nat.reduceAdd, Nat.reduceLT, Nat.reduceLeDiff, Nat.reduceMul, ↓reduceIte, reduceCtorEq]
    refine spec_ResponseTimes_ (S := S) (O := O) (by omega) (by omega) (Rd.own rfl) (Rd.own rfl) (fun _ d2 => ?_) (fun h1 => absurd h1 hO)
    simp only [go_sem, Int.reduceToNat, List.take_nil, Nat.zero_mul, Nat.reduceEqDiff, Nat.reduceAdd, Nat.reduceLT, Nat.reduceLeDiff, Nat.reduceMul, ↓reduceIte, reduceCtorEq]
    refine laws_sameInts_ (L := []) (M := []) (by simp) (Rd.none (by simp)) (Rd.len' rfl rfl) ?_
    simp only [not_true_eq_false, not_false_eq_true, decide_true, decide_false, Bool.not_true, Bool.not_false, false_implies, true_implies, and_true, true_and, Bool.false_eq_true, Bool.true_eq_false, implies_true, Bool.not_not, Classical.not_not, go_sem, Int.reduceToNat, List.take_nil, Nat.zero_mul, Nat.reduceEqDiff, Nat.reduceAdd, Nat.reduceLT, Nat.reduceLeDiff, Nat.reduceMul, ↓reduceIte, reduceCtorEq]
    refine spec_OrderValid_ (S := S) (O := O) (by omega) (by omega) (Rd.own rfl) (Rd.own rfl) ?_
    simp only [hO, not_true_eq_false, not_false_eq_true, decide_true, decide_false, Bool.not_true, Bool.not_false, false_implies, true_implies, and_true, true_and, Bool.false_eq_true, Bool.true_eq_false, implies_true, Bool.not_not, Classical.not_not, go_sem, Int.reduceToNat, List.take_nil, Nat.zero_mul, Nat.reduceEqDiff, Nat.reduceAdd, Nat.reduceLT, Nat.reduceLeDiff, Nat.reduceMul, ↓reduceIte, reduceCtorEq]
    refine laws_alive_ ?_
    simp only [not_true_eq_false, not_false_eq_true, decide_true, decide_false, Bool.not_true, Bool.not_false, false_implies, true_implies, and_true, true_and, Bool.false_eq_true, Bool.true_eq_false, implies_true, Bool.not_not, Classical.not_not, go_sem, Int.reduceToNat, List.take_nil, Nat.zero_mul, Nat.reduceEqDiff, Nat.reduceAdd, Nat.reduceLT, Nat.reduceLeDiff, Nat.reduceMul, ↓reduceIte, reduceCtorEq]
    exact Fin.plain rfl

theorem c_FnResponseExact (C : List Nat) (c : Nat) (hC : ∀ x ∈ C, x < 256) (_ : C.length * 1 ≤ 140737488351232) (hc : C.length ≤ c) : CallWp Try.prog n_laws_FnResponseExact [.sl 0 0 C.length c] [.ro (encByte.row C)] (fun x _ => x = .b true) := laws_FnResponseExact0 C hC c hc
end Go.Proofs.Ytgnlibnnpipbhaa
