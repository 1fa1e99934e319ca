/- The law FnFixedChoice answers true: over the abstract heap. -/
import Derived.Test.YtgnlibnnpipbhaaV1
import Derived.Test.YtgnlibnnpipbhaaS9
import Derived.Test.YtgnlibnnpipbhaaF1
import Derived.Test.YtgnlibnnpipbhaaMM
namespace Go.Proofs.Ytgnlibnnpipbhaa
open Go.Abs Go.Ds
set_option linter.unusedSimpArgs false
set_option linter.unusedVariables false
set_option maxRecDepth 20000
set_option maxHeartbeats 2000000

theorem spec_DrawRunFixed0 (C : List Nat) (hC : ∀ x ∈ C, x < 256) (c : Nat) (hc : C.length ≤ c) : CallWp Try.prog n_spec_DrawRunFixed [.sl 0 0 C.length c] [.ro (encByte.row C)] (fun x σ' => ∃ (S : List Task) (O : List Int) (L : List Job) (cap cap3 cap' : Nat),
    x = .tup [.sl 1 0 S.length cap, .sl 2 0 O.length cap3, .sl 3 0 L.length cap'] ∧ σ' = [.ro (encByte.row C), .rw ty_impl_Task (encTask.row S) (cap * 3), .rw ty_int (encInt.row O) cap3, .rw ty_impl_Job (encJob.row L) (cap' * 4)] ∧ (S.length ≤ 8 ∧ ∀ t ∈ S, wildT t) ∧ (O.length ≤ 9 ∧ ∀ o ∈ O, -1 ≤ o ∧ o ≤ 20) ∧ L.length ≤ 62 ∧ ∀ j ∈ L, wildJ j) := by
  refine call_spec_DrawRunFixed (by simp) ?_
  simp only [c_spec_DrawRunFixed, go_sem, Int.reduceToNat, List.take_nil, Nat.zero_mul, Nat.reduceEqDiff, Nat.reduceAdd, Nat.reduceLT, Nat.reduceLeDiff, Nat.reduceMul, ↓reduceIte, reduceCtorEq]
  refine (spec_l20Open0 C c hc).mono ?_
  rintro x σ' _ ⟨rfl, rfl⟩
  simp only [go_sem, Int.reduceToNat, List.take_nil, Nat.zero_mul, Nat.reduceEqDiff, Nat.reduceAdd, Nat.reduceLT, Nat.reduceLeDiff, Nat.reduceMul, ↓reduceIte, reduceCtorEq]
  refine spec_l20Set_ (Rdr.take (τ := [])) (Code.take hC) (by omega) _ (by omega) fun S cap p1 h11 h12 hS8 hS _ => ?_
  simp only [go_sem, Int.reduceToNat, List.take_nil, Nat.zero_mul, Nat.reduceEqDiff, Nat.reduceAdd, Nat.reduceLT, Nat.reduceLeDiff, Nat.reduceMul, ↓reduceIte, reduceCtorEq]
  refine spec_l20Order_ (Rdr.take (τ := [_])) (Code.take hC) (by omega) _ (by omega) _ (by omega) fun O cap3 p3 h31 h32 hO9 hO => ?_
  simp only [go_sem, Int.reduceToNat, List.take_nil, Nat.zero_mul, Nat.reduceEqDiff, Nat.reduceAdd, Nat.reduceLT, Nat.reduceLeDiff, Nat.reduceMul, ↓reduceIte, reduceCtorEq]
  refine spec_SetValid_ (L := S) (by omega) (Rd.own rfl) ?_
  simp only [not_true_eq_false, not_false_eq_true, decide_true, decide_false, Bool.not_true, Bool.not_false, false_implies, true_implies, and_true, true_and, Bool.false_eq_true, Bool.true_eq_false, implies_true, Bool.not_not, Classical.not_not, go_sem, Int.reduceToNat, List.take_nil, Nat.zero_mul, Nat.reduceEqDiff, Nat.reduceAdd, Nat.reduceLT, Nat.reduceLeDiff, Nat.reduceMul, ↓reduceIte, reduceCtorEq]
  refine ⟨fun hv => ?_, fun hv => ?_⟩
  · exact Fin.pick [0, 2, 3, 4] (.tup [.sl 1 0 S.length cap, .sl 2 0 O.length cap3, .sl 3 0 0 0]) [.ro (encByte.row C), .rw ty_impl_Task (encTask.row S) (cap * 3), .rw ty_int (encInt.row O) cap3, .rw ty_impl_Job (encJob.row []) (0 * 4)] ⟨S, O, [], cap, cap3, 0, rfl, rfl, ⟨hS8, hS⟩, ⟨hO9, hO⟩, by simp, by simp⟩
  · refine spec_l20Jobs_ (Rdr.take (τ := [_, _])) (Code.take hC) (by omega) hv (Sl.own rfl (by decide)) _ (by omega) fun L cap' p2 h21 h22 hL62 hL => ?_
    simp only [go_sem, Int.reduceToNat, List.take_nil, Nat.zero_mul, Nat.reduceEqDiff, Nat.reduceAdd, Nat.reduceLT, Nat.reduceLeDiff, Nat.reduceMul, ↓reduceIte, reduceCtorEq]
    exact Fin.pick [0, 2, 3, 4] (.tup [.sl 1 0 S.length cap, .sl 2 0 O.length cap3, .sl 3 0 L.length cap']) _ ⟨S, O, L, cap, cap3, cap', rfl, rfl, ⟨hS8, hS⟩, ⟨hO9, hO⟩, hL62, hL⟩

theorem fixRun_length (O : List Int) (L : List Job) : (fixRun O L).length = 120 := (simU_lens 120).2.2
theorem fixFin_length (O : List Int) (L : List Job) : (fixFin O L).length = L.length := (simU_lens 120).2.1

theorem laws_FnFixedChoice0 (C : List Nat) (hC : ∀ x ∈ C, x < 256) (c : Nat) (hc : C.length ≤ c) : CallWp Try.prog n_laws_FnFixedChoice [.sl 0 0 C.length c] [.ro (encByte.row C)] (fun x _ => x = .b true) := by
  refine call_laws_FnFixedChoice (by simp) ?_
  simp only [c_laws_FnFixedChoice, go_sem, Int.reduceToNat, List.take_nil, Nat.zero_mul, Nat.reduceEqDiff, Nat.reduceAdd, Nat.reduceLT, Nat.reduceLeDiff, Nat.reduceMul, ↓reduceIte, reduceCtorEq]
  refine ⟨fun h => Fin.plain rfl, fun h => ?_⟩
  refine (spec_DrawRunFixed0 C hC c hc).mono ?_
  rintro x σ' _ ⟨S, O, L, cap, cap3, cap', rfl, rfl, ⟨hS8, hSw⟩, ⟨hO9, hOw⟩, hL62, hLw⟩
  simp only [go_sem, Int.reduceToNat, List.take_nil, Nat.zero_mul, Nat.reduceEqDiff, Nat.reduceAdd, Nat.reduceLT, Nat.reduceLeDiff, Nat.reduceMul, ↓reduceIte, reduceCtorEq]
  have hR := fixRun_length O L
  have hF := fixFin_length O L
  by_cases hv : ordOk S O ∧ jobsLegal S L
  · refine impl_RunFixed_ (S := S) (O := O) (L := L) (by omega) (by omega) (by omega) (Rd.own rfl) (Rd.own rfl) (Rd.own rfl) (fun hno => absurd hv hno) (fun _ c1 c2 => ?_)
    simp only [go_sem, Int.reduceToNat, List.take_nil, Nat.zero_mul, Nat.reduceEqDiff, Nat.reduceAdd, Nat.reduceLT, Nat.reduceLeDiff, Nat.reduceMul, ↓reduceIte, reduceCtorEq]
    refine spec_RunFixed_ (S := S) (O := O) (L := L) (by omega) (by omega) (by omega) (Rd.own rfl) (Rd.own rfl) (Rd.own rfl) (fun hno => absurd hv hno) (fun _ => ?_)
    rintro x τ (⟨hno, _⟩ | ⟨_, d1, d2, ⟨hne, rfl, rfl⟩ | ⟨hne, rfl, rfl⟩⟩)
    · exact absurd trivial hno
    all_goals
      simp only [go_sem, Int.reduceToNat, List.take_nil, Nat.zero_mul, Nat.reduceEqDiff, Nat.reduceAdd, Nat.reduceLT, Nat.reduceLeDiff, Nat.reduceMul, ↓reduceIte, reduceCtorEq]
      refine laws_sameSchedule_ (X1 := fixRun O L) (Y1 := fixFin O L) (X2 := fixRun O L) (Y2 := fixFin O L) (Rd.len' rfl hR) (Rd.len' rfl hF) (Rd.len' rfl hR) (by first | exact Rd.own rfl | (rw [hne]; exact Rd.none (by simp))) (by omega) (by omega) ?_
      simp only [not_true_eq_false, not_false_eq_true, decide_true, decide_false, Bool.not_true, Bool.not_false, false_implies, true_implies, and_true, true_and, Bool.false_eq_true, Bool.true_eq_false, implies_true, Bool.not_not, Classical.not_not, go_sem, Int.reduceToNat, List.take_nil, Nat.zero_mul, Nat.reduceEqDiff, Nat.reduceAdd, Nat.reduceLT, Nat.reduceLeDiff, Nat.reduceMul, ↓reduceIte, reduceCtorEq]
      refine ⟨fun h => absurd rfl h, fun _ => ⟨by omega, ?_⟩⟩
      rw [show rep S.length [AV.i .i64 0] = encInt.row (List.replicate S.length 0) from encInt.rep 0 _]
      have hOl := hv.1.2.1
      refine loop_intro (fun i : Nat × List Int => ⟨[(4, .sl 2 0 O.length cap3), (5, .sl 3 0 L.length cap'), (6, .p 6 0), (7, .sl 7 0 S.length S.length), (8, .i .i64 i.1)], [.ro (encByte.row C), .rw ty_impl_Task (encTask.row S) (cap * 3), .rw ty_int (encInt.row O) cap3, .rw ty_impl_Job (encJob.row L) (cap' * 4), .rw ty_int (encInt.row (fixRun O L)) c1, .rw ty_int (encInt.row (fixFin O L)) c2, .rw ty_impl_Schedule [.sl 4 0 120 c1, .sl 5 0 L.length c2] 2, .rw ty_int (encInt.row i.2) S.length]⟩)
        (fun i => i.1 ≤ O.length ∧ i.2.length = S.length ∧ ∀ m (hm : m < O.length), m < i.1 → gI i.2 O[m] = m) (fun i => O.length - i.1) (0, List.replicate S.length 0) ⟨Nat.zero_le _, by simp, fun m _ hm => absurd hm (by simp)⟩ (by first | exact Wk.pick [0, 1, 2, 3, 4, 5, 6, 9] | exact Wk.pick [0, 1, 2, 3, 4, 5, 6, 8]) ?_
      rintro ⟨k, R⟩ ⟨hk, hRl, hJ⟩
      simp only at hk hRl hJ
      simp only [l2_laws_FnFixedChoice, not_true_eq_false, not_false_eq_true, decide_true, decide_false, Bool.not_true, Bool.not_false, false_implies, true_implies, and_true, true_and, Bool.false_eq_true, Bool.true_eq_false, implies_true, Bool.not_not, Classical.not_not, go_sem, Int.reduceToNat, List.take_nil, Nat.zero_mul, Nat.reduceEqDiff, Nat.reduceAdd, Nat.reduceLT, Nat.reduceLeDiff, Nat.reduceMul, ↓reduceIte, reduceCtorEq]
      refine ⟨fun hl => ?_, fun hl => ?_⟩
      · have hkO : k < O.length := by omega
        have hok := hv.1.2.2.1 _ (List.getElem_mem hkO)
        have hkR : O[k].toNat < R.length := by omega
        simp only [rdI hkO, splI hkR, lenI, hRl, not_true_eq_false, not_false_eq_true, decide_true, decide_false, Bool.not_true, Bool.not_false, false_implies, true_implies, and_true, true_and, Bool.false_eq_true, Bool.true_eq_false, implies_true, Bool.not_not, Classical.not_not, go_sem, Int.reduceToNat, List.take_nil, Nat.zero_mul, Nat.reduceEqDiff, Nat.reduceAdd, Nat.reduceLT, Nat.reduceLeDiff, Nat.reduceMul, ↓reduceIte, reduceCtorEq]
        repeat refine ⟨by omega, ?_⟩
        refine ⟨(k + 1, R.set O[k].toNat k), ⟨⟨by simp only; omega, by simp only [List.length_set]; exact hRl, fun m hm hmk => ?_⟩, by simp only; omega⟩, Wk.pick [0, 1, 2, 3, 4, 5, 6, 7]⟩
        simp only at hmk ⊢
        have hom := hv.1.2.2.1 _ (List.getElem_mem hm)
        rw [show (O[m] : Int) = ((O[m].toNat : Nat) : Int) from by omega, gI_set hkR]
        by_cases e : m = k
        · subst e; rw [if_pos rfl]
        · have hne2 : O[k].toNat ≠ O[m].toNat := fun e2 => e ((List.getElem_inj hv.1.2.2.2).1 (show O[m] = O[k] by omega))
          rw [if_neg hne2, show ((O[m].toNat : Nat) : Int) = O[m] from by omega]
          exact hJ m hm (by omega)
      · have hk2 : k = O.length := by omega
        have hrk := fun {t : Int} (h0 : 0 ≤ t) (h1 : t < S.length) (ht : t.toNat < R.length) => rank_row hv.1 hRl (fun m hm => hJ m hm (by omega)) h0 h1 ht
        rw [show rep L.length [AV.i .i64 0] = encInt.row (simU L (fixPick O L) 0).done from encInt.rep 0 _]
        refine ⟨by omega, loop_count 120 (fun k => ⟨[(5, .sl 3 0 L.length cap'), (6, .p 6 0), (7, .sl 7 0 S.length S.length), (9, .sl 8 0 L.length L.length), (10, .i .i64 k)], [.ro (encByte.row C), .rw ty_impl_Task (encTask.row S) (cap * 3), .rw ty_int (encInt.row O) cap3, .rw ty_impl_Job (encJob.row L) (cap' * 4), .rw ty_int (encInt.row (fixRun O L)) c1, .rw ty_int (encInt.row (fixFin O L)) c2, .rw ty_impl_Schedule [.sl 4 0 120 c1, .sl 5 0 L.length c2] 2, .rw ty_int (encInt.row R) S.length, .rw ty_int (encInt.row (simU L (fixPick O L) k).done) L.length]⟩)
          (fun _ => True) trivial (Wk.pick [0, 1, 2, 3, 4, 5, 6, 7, 8]) fun k hk _ => ?_⟩
        simp only [l1_laws_FnFixedChoice, not_true_eq_false, not_false_eq_true, decide_true, decide_false, Bool.not_true, Bool.not_false, false_implies, true_implies, and_true, true_and, Bool.false_eq_true, Bool.true_eq_false, implies_true, Bool.not_not, Classical.not_not, go_sem, Int.reduceToNat, List.take_nil, Nat.zero_mul, Nat.reduceEqDiff, Nat.reduceAdd, Nat.reduceLT, Nat.reduceLeDiff, Nat.reduceMul, ↓reduceIte, reduceCtorEq]
        refine ⟨fun hl => ?_, fun hl => Fin.plain rfl⟩
        have hkR : k < (fixRun O L).length := by omega
        have hdl := (simU_lens (L := L) (pick := fixPick O L) k).1
        have eR : (fixRun O L)[k] = fixPick O L k (simU L (fixPick O L) k).done := by rw [← gI_row hkR]; exact simU_at (by omega)
        have hneg := @simU_done_neg L (fixPick O L) k
        have hpos := @simU_done_pos L (fixPick O L) k
        have hch := choice (L := L) (key := fun i => rk O (L.getD i default).T) (pick := fixPick O L) (fun _ _ => rfl) (legal_E hv.2) k (by omega)
        generalize (simU L (fixPick O L) (k + 1)).done = dn' at hneg hpos ⊢
        generalize fixPick O L k (simU L (fixPick O L) k).done = r at *
        generalize (simU L (fixPick O L) k).done = dn at *
        simp only [rdI hkR, lenI, hR, eR, not_true_eq_false, not_false_eq_true, decide_true, decide_false, Bool.not_true, Bool.not_false, false_implies, true_implies, and_true, true_and, Bool.false_eq_true, Bool.true_eq_false, implies_true, Bool.not_not, Classical.not_not, go_sem, Int.reduceToNat, List.take_nil, Nat.zero_mul, Nat.reduceEqDiff, Nat.reduceAdd, Nat.reduceLT, Nat.reduceLeDiff, Nat.reduceMul, ↓reduceIte, reduceCtorEq]
        rcases hch with ⟨e, h1⟩ | ⟨n, hn, hd, e, hb, h1⟩
        · subst e
          obtain rfl := hneg (by omega)
          refine ⟨by omega, by omega, ?_⟩
          refine loop_count L.length (fun j => ⟨[(5, .sl 3 0 L.length cap'), (6, .p 6 0), (7, .sl 7 0 S.length S.length), (9, .sl 8 0 L.length L.length), (10, .i .i64 k), (11, .i .i64 (-1)), (12, .i .i64 j)], [.ro (encByte.row C), .rw ty_impl_Task (encTask.row S) (cap * 3), .rw ty_int (encInt.row O) cap3, .rw ty_impl_Job (encJob.row L) (cap' * 4), .rw ty_int (encInt.row (fixRun O L)) c1, .rw ty_int (encInt.row (fixFin O L)) c2, .rw ty_impl_Schedule [.sl 4 0 120 c1, .sl 5 0 L.length c2] 2, .rw ty_int (encInt.row R) S.length, .rw ty_int (encInt.row dn') L.length]⟩) (fun _ => True) trivial (Wk.pick [0, 1, 2, 3, 4, 5, 6, 7, 8]) fun j hj _ => ?_
          simp only [l0_laws_FnFixedChoice, not_true_eq_false, not_false_eq_true, decide_true, decide_false, Bool.not_true, Bool.not_false, false_implies, true_implies, and_true, true_and, Bool.false_eq_true, Bool.true_eq_false, implies_true, Bool.not_not, Classical.not_not, go_sem, Int.reduceToNat, List.take_nil, Nat.zero_mul, Nat.reduceEqDiff, Nat.reduceAdd, Nat.reduceLT, Nat.reduceLeDiff, Nat.reduceMul, ↓reduceIte, reduceCtorEq]
          refine ⟨fun hlj => ?_, fun hlj => ?_⟩
          · have hjd : j < dn'.length := by omega
            have hj1 := h1 j hlj hjd
            simp only [rdJ1 hlj, rdJ3 hlj, rdI hjd, lenJ, lenI, hdl, not_true_eq_false, not_false_eq_true, decide_true, decide_false, Bool.not_true, Bool.not_false, false_implies, true_implies, and_true, true_and, Bool.false_eq_true, Bool.true_eq_false, implies_true, Bool.not_not, Classical.not_not, go_sem, Int.reduceToNat, List.take_nil, Nat.zero_mul, Nat.reduceEqDiff, Nat.reduceAdd, Nat.reduceLT, Nat.reduceLeDiff, Nat.reduceMul, ↓reduceIte, reduceCtorEq]
            repeat' first | omega | (exfalso; omega) | exact Wk.pick [0, 1, 2, 3, 4, 5, 6, 7, 8] | refine ⟨?_, ?_⟩ | intro _
          · repeat' first | omega | (exfalso; omega) | exact Wk.pick [0, 1, 2, 3, 4, 5, 6, 7, 8] | refine ⟨?_, ?_⟩ | intro _
        · subst e
          have e2 := hpos rfl
          rw [gI_row hd] at e2
          subst e2
          have hrn := legal_row hv.2 hn
          have hnR : L[n].T.toNat < R.length := by omega
          have en := hrk hrn.1.1 hrn.1.2 hnR
          refine ⟨by omega, by omega, ?_⟩
          refine loop_count L.length (fun j => ⟨[(5, .sl 3 0 L.length cap'), (6, .p 6 0), (7, .sl 7 0 S.length S.length), (9, .sl 8 0 L.length L.length), (10, .i .i64 k), (11, .i .i64 (n : Int)), (12, .i .i64 j)], [.ro (encByte.row C), .rw ty_impl_Task (encTask.row S) (cap * 3), .rw ty_int (encInt.row O) cap3, .rw ty_impl_Job (encJob.row L) (cap' * 4), .rw ty_int (encInt.row (fixRun O L)) c1, .rw ty_int (encInt.row (fixFin O L)) c2, .rw ty_impl_Schedule [.sl 4 0 120 c1, .sl 5 0 L.length c2] 2, .rw ty_int (encInt.row R) S.length, .rw ty_int (encInt.row dn) L.length]⟩) (fun _ => True) trivial (Wk.pick [0, 1, 2, 3, 4, 5, 6, 7, 8]) fun j hj _ => ?_
          simp only [l0_laws_FnFixedChoice, not_true_eq_false, not_false_eq_true, decide_true, decide_false, Bool.not_true, Bool.not_false, false_implies, true_implies, and_true, true_and, Bool.false_eq_true, Bool.true_eq_false, implies_true, Bool.not_not, Classical.not_not, go_sem, Int.reduceToNat, List.take_nil, Nat.zero_mul, Nat.reduceEqDiff, Nat.reduceAdd, Nat.reduceLT, Nat.reduceLeDiff, Nat.reduceMul, ↓reduceIte, reduceCtorEq]
          refine ⟨fun hlj => ?_, fun hlj => ?_⟩
          · have hjd : j < dn.length := by omega
            have hj1 := h1 j hlj hjd
            have hrj := legal_row hv.2 hlj
            have hjR : L[j].T.toNat < R.length := by omega
            have ej := hrk hrj.1.1 hrj.1.2 hjR
            have hself : j = n → rk O L[j].T = rk O L[n].T := fun e => by subst e; rfl
            simp only [List.getD_eq_getElem?_getD, List.getElem?_eq_getElem hlj, List.getElem?_eq_getElem hn, Option.getD_some] at hj1
            change R[L[n].T.toNat] = rk O L[n].T at en
            change R[L[j].T.toNat] = rk O L[j].T at ej
            simp only [rdJ0 hlj, rdJ0 hn, rdJ1 hlj, rdJ3 hlj, rdI hjd, rdI hnR, rdI hjR, en, ej, Int.toNat_natCast, lenJ, lenI, hdl, hRl, not_true_eq_false, not_false_eq_true, decide_true, decide_false, Bool.not_true, Bool.not_false, false_implies, true_implies, and_true, true_and, Bool.false_eq_true, Bool.true_eq_false, implies_true, Bool.not_not, Classical.not_not, go_sem, Int.reduceToNat, List.take_nil, Nat.zero_mul, Nat.reduceEqDiff, Nat.reduceAdd, Nat.reduceLT, Nat.reduceLeDiff, Nat.reduceMul, ↓reduceIte, reduceCtorEq]
            repeat' first | omega | (exfalso; omega) | exact Wk.pick [0, 1, 2, 3, 4, 5, 6, 7, 8] | refine ⟨?_, ?_⟩ | intro _
          · simp only [Int.toNat_natCast, rdI hd, splI hd, lenI, hdl, not_true_eq_false, not_false_eq_true, decide_true, decide_false, Bool.not_true, Bool.not_false, false_implies, true_implies, and_true, true_and, Bool.false_eq_true, Bool.true_eq_false, implies_true, Bool.not_not, Classical.not_not, go_sem, Int.reduceToNat, List.take_nil, Nat.zero_mul, Nat.reduceEqDiff, Nat.reduceAdd, Nat.reduceLT, Nat.reduceLeDiff, Nat.reduceMul, ↓reduceIte, reduceCtorEq]
            repeat' first | omega | (exfalso; omega) | exact Wk.pick [0, 1, 2, 3, 4, 5, 6, 7, 8] | refine ⟨?_, ?_⟩ | intro _
  · refine impl_RunFixed_ (S := S) (O := O) (L := L) (by omega) (by omega) (by omega) (Rd.own rfl) (Rd.own rfl) (Rd.own rfl) (fun _ => ?_) (fun h => absurd h hv)
    simp only [go_sem, Int.reduceToNat, List.take_nil, Nat.zero_mul, Nat.reduceEqDiff, Nat.reduceAdd, Nat.reduceLT, Nat.reduceLeDiff, Nat.reduceMul, ↓reduceIte, reduceCtorEq]
    refine spec_RunFixed_ (S := S) (O := O) (L := L) (by omega) (by omega) (by omega) (Rd.own rfl) (Rd.own rfl) (Rd.own rfl) (fun _ => ?_) (fun h => absurd h hv)
    simp only [go_sem, Int.reduceToNat, List.take_nil, Nat.zero_mul, Nat.reduceEqDiff, Nat.reduceAdd, Nat.reduceLT, Nat.reduceLeDiff, Nat.reduceMul, ↓reduceIte, reduceCtorEq]
    refine laws_sameSchedule_ (X1 := []) (Y1 := []) (X2 := []) (Y2 := []) (Rd.none (by simp)) (Rd.none (by simp)) (Rd.none (by simp)) (Rd.none (by simp)) (by simp) (by simp) ?_
    simp only [not_true_eq_false, not_false_eq_true, decide_true, decide_false, Bool.not_true, Bool.not_false, false_implies, true_implies, and_true, true_and, Bool.false_eq_true, Bool.true_eq_false, implies_true, Bool.not_not, Classical.not_not, go_sem, Int.reduceToNat, List.take_nil, Nat.zero_mul, Nat.reduceEqDiff, Nat.reduceAdd, Nat.reduceLT, Nat.reduceLeDiff, Nat.reduceMul, ↓reduceIte, reduceCtorEq]
    refine ⟨fun _ => laws_alive_ ?_, fun h => absurd h (by decide)⟩
    simp only [not_true_eq_false, not_false_eq_true, decide_true, decide_false, Bool.not_true, Bool.not_false, false_implies, true_implies, and_true, true_and, Bool.false_eq_true, Bool.true_eq_false, implies_true, Bool.not_not, Classical.not_not, go_sem, Int.reduceToNat, List.take_nil, Nat.zero_mul, Nat.reduceEqDiff, Nat.reduceAdd, Nat.reduceLT, Nat.reduceLeDiff, Nat.reduceMul, ↓reduceIte, reduceCtorEq]
    exact Fin.plain rfl

theorem c_FnFixedChoice (C : List Nat) (c : Nat) (hC : ∀ x ∈ C, x < 256) (_ : C.length * 1 ≤ 140737488351232) (hc : C.length ≤ c) : CallWp Try.prog n_laws_FnFixedChoice [.sl 0 0 C.length c] [.ro (encByte.row C)] (fun x _ => x = .b true) := laws_FnFixedChoice0 C hC c hc
end Go.Proofs.Ytgnlibnnpipbhaa
