/- The law FnRunEdfChoice answers true: over the abstract heap. -/
import Derived.Test.YtdmoafmgeipenaaV1
import Derived.Test.YtdmoafmgeipenaaM7
namespace Go.Proofs.Ytdmoafmgeipenaa
open Go.Abs Go.Ds
set_option linter.unusedSimpArgs false
set_option linter.unusedVariables false
set_option maxRecDepth 20000
set_option maxHeartbeats 2000000

theorem laws_FnRunEdfChoice0 (C : List Nat) (hC : ∀ x ∈ C, x < 256) (c : Nat) (hc : C.length ≤ c) : CallWp Try.prog n_laws_FnRunEdfChoice [.sl 0 0 C.length c] [.ro (encByte.row C)] (fun x _ => x = .b true) := by
  refine call_laws_FnRunEdfChoice (by simp) ?_
  simp only [c_laws_FnRunEdfChoice, go_sem, Int.reduceToNat, List.take_nil, Nat.zero_mul, Nat.reduceEqDiff, Nat.reduceAdd, Nat.reduceLT, Nat.reduceLeDiff, Nat.reduceMul, ↓reduceIte, reduceCtorEq]
  refine ⟨fun h => Fin.plain rfl, fun h => ?_⟩
  refine (spec_DrawRunEdf0 C hC c hc).mono ?_
  rintro x σ' _ ⟨S, L, cap, cap', rfl, rfl, ⟨hS8, hSw⟩, hL62, hLw⟩
  simp only [go_sem, Int.reduceToNat, List.take_nil, Nat.zero_mul, Nat.reduceEqDiff, Nat.reduceAdd, Nat.reduceLT, Nat.reduceLeDiff, Nat.reduceMul, ↓reduceIte, reduceCtorEq]
  have hR := edfRun_length L
  have hF := edfFin_length L
  by_cases hv : jobsLegal S L
  · refine impl_RunEdf_ (S := S) (L := L) (by omega) (by omega) (Rd.own rfl) (Rd.own rfl) (fun hno => absurd hv hno) (fun _ c1 c2 => ?_)
    simp only [go_sem, Int.reduceToNat, List.take_nil, Nat.zero_mul, Nat.reduceEqDiff, Nat.reduceAdd, Nat.reduceLT, Nat.reduceLeDiff, Nat.reduceMul, ↓reduceIte, reduceCtorEq]
    refine spec_RunEdf_ (S := S) (L := L) (by omega) (by omega) (Rd.own rfl) (Rd.own rfl) (fun hno => absurd hv hno) (fun _ => ?_)
    rintro x τ (⟨hno, _⟩ | ⟨_, d1, d2, ⟨hne, rfl, rfl⟩ | ⟨hne, rfl, rfl⟩⟩)
    · exact absurd trivial hno
    all_goals
      simp only [go_sem, Int.reduceToNat, List.take_nil, Nat.zero_mul, Nat.reduceEqDiff, Nat.reduceAdd, Nat.reduceLT, Nat.reduceLeDiff, Nat.reduceMul, ↓reduceIte, reduceCtorEq]
      refine laws_sameSchedule_ (X1 := edfRun L) (Y1 := edfFin L) (X2 := edfRun L) (Y2 := edfFin L) (Rd.len' rfl hR) (Rd.len' rfl hF) (Rd.len' rfl hR) (by first | exact Rd.own rfl | (rw [hne]; exact Rd.none (by simp))) (by omega) (by omega) ?_
      simp only [not_true_eq_false, not_false_eq_true, decide_true, decide_false, Bool.not_true, Bool.not_false, false_implies, true_implies, and_true, true_and, Bool.false_eq_true, Bool.true_eq_false, implies_true, Bool.not_not, Classical.not_not, go_sem, Int.reduceToNat, List.take_nil, Nat.zero_mul, Nat.reduceEqDiff, Nat.reduceAdd, Nat.reduceLT, Nat.reduceLeDiff, Nat.reduceMul, ↓reduceIte, reduceCtorEq]
      refine ⟨fun h => absurd rfl h, fun _ => ⟨by omega, ?_⟩⟩
      rw [show rep L.length [AV.i .i64 0] = encInt.row (simU L (edfPick L) 0).done from encInt.rep 0 _]
      refine loop_count 120 (fun k => ⟨[(4, .sl 2 0 L.length cap'), (5, .p 5 0), (6, .sl 6 0 L.length L.length), (7, .i .i64 k)], [.ro (encByte.row C), .rw ty_impl_Task (encTask.row S) (cap * 3), .rw ty_impl_Job (encJob.row L) (cap' * 4), .rw ty_int (encInt.row (edfRun L)) c1, .rw ty_int (encInt.row (edfFin L)) c2, .rw ty_impl_Schedule [.sl 3 0 120 c1, .sl 4 0 L.length c2] 2, .rw ty_int (encInt.row (simU L (edfPick L) k).done) L.length]⟩)
        (fun _ => True) trivial (by first | exact Wk.pick [0, 1, 2, 3, 4, 5, 8] | exact Wk.pick [0, 1, 2, 3, 4, 5, 7]) fun k hk _ => ?_
      simp only [l1_laws_FnRunEdfChoice, not_true_eq_false, not_false_eq_true, decide_true, decide_false, Bool.not_true, Bool.not_false, false_implies, true_implies, and_true, true_and, Bool.false_eq_true, Bool.true_eq_false, implies_true, Bool.not_not, Classical.not_not, go_sem, Int.reduceToNat, List.take_nil, Nat.zero_mul, Nat.reduceEqDiff, Nat.reduceAdd, Nat.reduceLT, Nat.reduceLeDiff, Nat.reduceMul, ↓reduceIte, reduceCtorEq]
      refine ⟨fun hl => ?_, fun hl => Fin.plain rfl⟩
      have hkR : k < (edfRun L).length := by omega
      have hdl := (simU_lens (L := L) (pick := edfPick L) k).1
      have eR : (edfRun L)[k] = edfPick L k (simU L (edfPick L) k).done := by rw [← gI_row hkR]; exact simU_at (by omega)
      have hneg := @simU_done_neg L (edfPick L) k
      have hpos := @simU_done_pos L (edfPick L) k
      have hch := choice (L := L) (key := fun i => (L.getD i default).D) (pick := edfPick L) (fun _ _ => rfl) (legal_E hv) k (by omega)
      generalize (simU L (edfPick L) (k + 1)).done = dn' at hneg hpos ⊢
      generalize edfPick L k (simU L (edfPick L) k).done = r at *
      generalize (simU L (edfPick L) k).done = dn at *
      simp only [rdI hkR, lenI, hR, eR, not_true_eq_false, not_false_eq_true, decide_true, decide_false, Bool.not_true, Bool.not_false, false_implies, true_implies, and_true, true_and, Bool.false_eq_true, Bool.true_eq_false, implies_true, Bool.not_not, Classical.not_not, go_sem, Int.reduceToNat, List.take_nil, Nat.zero_mul, Nat.reduceEqDiff, Nat.reduceAdd, Nat.reduceLT, Nat.reduceLeDiff, Nat.reduceMul, ↓reduceIte, reduceCtorEq]
      rcases hch with ⟨e, h1⟩ | ⟨n, hn, hd, e, hb, h1⟩
      · subst e
        obtain rfl := hneg (by omega)
        refine ⟨by omega, by omega, ?_⟩
        refine loop_count L.length (fun j => ⟨[(4, .sl 2 0 L.length cap'), (5, .p 5 0), (6, .sl 6 0 L.length L.length), (7, .i .i64 k), (8, .i .i64 (-1)), (9, .i .i64 j)], [.ro (encByte.row C), .rw ty_impl_Task (encTask.row S) (cap * 3), .rw ty_impl_Job (encJob.row L) (cap' * 4), .rw ty_int (encInt.row (edfRun L)) c1, .rw ty_int (encInt.row (edfFin L)) c2, .rw ty_impl_Schedule [.sl 3 0 120 c1, .sl 4 0 L.length c2] 2, .rw ty_int (encInt.row dn') L.length]⟩) (fun _ => True) trivial (Wk.pick [0, 1, 2, 3, 4, 5, 6]) fun j hj _ => ?_
        simp only [l0_laws_FnRunEdfChoice, not_true_eq_false, not_false_eq_true, decide_true, decide_false, Bool.not_true, Bool.not_false, false_implies, true_implies, and_true, true_and, Bool.false_eq_true, Bool.true_eq_false, implies_true, Bool.not_not, Classical.not_not, go_sem, Int.reduceToNat, List.take_nil, Nat.zero_mul, Nat.reduceEqDiff, Nat.reduceAdd, Nat.reduceLT, Nat.reduceLeDiff, Nat.reduceMul, ↓reduceIte, reduceCtorEq]
        refine ⟨fun hlj => ?_, fun hlj => ?_⟩
        · have hjd : j < dn'.length := by omega
          have hj1 := h1 j hlj hjd
          simp only [rdJ1 hlj, rdJ2 hlj, rdJ3 hlj, rdI hjd, lenJ, lenI, hdl, not_true_eq_false, not_false_eq_true, decide_true, decide_false, Bool.not_true, Bool.not_false, false_implies, true_implies, and_true, true_and, Bool.false_eq_true, Bool.true_eq_false, implies_true, Bool.not_not, Classical.not_not, go_sem, Int.reduceToNat, List.take_nil, Nat.zero_mul, Nat.reduceEqDiff, Nat.reduceAdd, Nat.reduceLT, Nat.reduceLeDiff, Nat.reduceMul, ↓reduceIte, reduceCtorEq]
          repeat' first | omega | (exfalso; omega) | exact Wk.pick [0, 1, 2, 3, 4, 5, 6] | refine ⟨?_, ?_⟩ | intro _
        · repeat' first | omega | (exfalso; omega) | exact Wk.pick [0, 1, 2, 3, 4, 5, 6] | refine ⟨?_, ?_⟩ | intro _
      · subst e
        have e2 := hpos rfl
        rw [gI_row hd] at e2
        subst e2
        refine ⟨by omega, by omega, ?_⟩
        refine loop_count L.length (fun j => ⟨[(4, .sl 2 0 L.length cap'), (5, .p 5 0), (6, .sl 6 0 L.length L.length), (7, .i .i64 k), (8, .i .i64 (n : Int)), (9, .i .i64 j)], [.ro (encByte.row C), .rw ty_impl_Task (encTask.row S) (cap * 3), .rw ty_impl_Job (encJob.row L) (cap' * 4), .rw ty_int (encInt.row (edfRun L)) c1, .rw ty_int (encInt.row (edfFin L)) c2, .rw ty_impl_Schedule [.sl 3 0 120 c1, .sl 4 0 L.length c2] 2, .rw ty_int (encInt.row dn) L.length]⟩) (fun _ => True) trivial (Wk.pick [0, 1, 2, 3, 4, 5, 6]) fun j hj _ => ?_
        simp only [l0_laws_FnRunEdfChoice, not_true_eq_false, not_false_eq_true, decide_true, decide_false, Bool.not_true, Bool.not_false, false_implies, true_implies, and_true, true_and, Bool.false_eq_true, Bool.true_eq_false, implies_true, Bool.not_not, Classical.not_not, go_sem, Int.reduceToNat, List.take_nil, Nat.zero_mul, Nat.reduceEqDiff, Nat.reduceAdd, Nat.reduceLT, Nat.reduceLeDiff, Nat.reduceMul, ↓reduceIte, reduceCtorEq]
        refine ⟨fun hlj => ?_, fun hlj => ?_⟩
        · have hjd : j < dn.length := by omega
          have hj1 := h1 j hlj hjd
          simp only [List.getD_eq_getElem?_getD, List.getElem?_eq_getElem hlj, List.getElem?_eq_getElem hn, Option.getD_some] at hj1
          simp only [rdJ1 hlj, rdJ2 hlj, rdJ3 hlj, rdI hjd, Int.toNat_natCast, rdJ2 hn, lenJ, lenI, hdl, not_true_eq_false, not_false_eq_true, decide_true, decide_false, Bool.not_true, Bool.not_false, false_implies, true_implies, and_true, true_and, Bool.false_eq_true, Bool.true_eq_false, implies_true, Bool.not_not, Classical.not_not, go_sem, Int.reduceToNat, List.take_nil, Nat.zero_mul, Nat.reduceEqDiff, Nat.reduceAdd, Nat.reduceLT, Nat.reduceLeDiff, Nat.reduceMul, ↓reduceIte, reduceCtorEq]
          repeat' first | omega | (exfalso; omega) | exact Wk.pick [0, 1, 2, 3, 4, 5, 6] | refine ⟨?_, ?_⟩ | intro _
        · simp only [Int.toNat_natCast, rdI hd, splI hd, lenI, hdl, not_true_eq_false, not_false_eq_true, decide_true, decide_false, Bool.not_true, Bool.not_false, false_implies, true_implies, and_true, true_and, Bool.false_eq_true, Bool.true_eq_false, implies_true, Bool.not_not, Classical.not_not, go_sem, Int.reduceToNat, List.take_nil, Nat.zero_mul, Nat.reduceEqDiff, Nat.reduceAdd, Nat.reduceLT, Nat.reduceLeDiff, Nat.reduceMul, ↓reduceIte, reduceCtorEq]
          repeat' first | omega | (exfalso; omega) | exact Wk.pick [0, 1, 2, 3, 4, 5, 6] | refine ⟨?_, ?_⟩ | intro _
  · refine impl_RunEdf_ (S := S) (L := L) (by omega) (by omega) (Rd.own rfl) (Rd.own rfl) (fun _ => ?_) (fun h => absurd h hv)
    simp only [go_sem, Int.reduceToNat, List.take_nil, Nat.zero_mul, Nat.reduceEqDiff, Nat.reduceAdd, Nat.reduceLT, Nat.reduceLeDiff, Nat.reduceMul, ↓reduceIte, reduceCtorEq]
    refine spec_RunEdf_ (S := S) (L := L) (by omega) (by omega) (Rd.own rfl) (Rd.own rfl) (fun _ => ?_) (fun h => absurd h hv)
    simp only [go_sem, Int.reduceToNat, List.take_nil, Nat.zero_mul, Nat.reduceEqDiff, Nat.reduceAdd, Nat.reduceLT, Nat.reduceLeDiff, Nat.reduceMul, ↓reduceIte, reduceCtorEq]
    refine laws_sameSchedule_ (X1 := []) (Y1 := []) (X2 := []) (Y2 := []) (Rd.none (by simp)) (Rd.none (by simp)) (Rd.none (by simp)) (Rd.none (by simp)) (by simp) (by simp) ?_
    simp only [not_true_eq_false, not_false_eq_true, decide_true, decide_false, Bool.not_true, Bool.not_false, false_implies, true_implies, and_true, true_and, Bool.false_eq_true, Bool.true_eq_false, implies_true, Bool.not_not, Classical.not_not, go_sem, Int.reduceToNat, List.take_nil, Nat.zero_mul, Nat.reduceEqDiff, Nat.reduceAdd, Nat.reduceLT, Nat.reduceLeDiff, Nat.reduceMul, ↓reduceIte, reduceCtorEq]
    refine ⟨fun _ => laws_alive_ ?_, fun h => absurd h (by decide)⟩
    simp only [not_true_eq_false, not_false_eq_true, decide_true, decide_false, Bool.not_true, Bool.not_false, false_implies, true_implies, and_true, true_and, Bool.false_eq_true, Bool.true_eq_false, implies_true, Bool.not_not, Classical.not_not, go_sem, Int.reduceToNat, List.take_nil, Nat.zero_mul, Nat.reduceEqDiff, Nat.reduceAdd, Nat.reduceLT, Nat.reduceLeDiff, Nat.reduceMul, ↓reduceIte, reduceCtorEq]
    exact Fin.plain rfl

theorem c_FnRunEdfChoice (C : List Nat) (c : Nat) (hC : ∀ x ∈ C, x < 256) (_ : C.length * 1 ≤ 140737488351232) (hc : C.length ≤ c) : CallWp Try.prog n_laws_FnRunEdfChoice [.sl 0 0 C.length c] [.ro (encByte.row C)] (fun x _ => x = .b true) := laws_FnRunEdfChoice0 C hC c hc
end Go.Proofs.Ytdmoafmgeipenaa
