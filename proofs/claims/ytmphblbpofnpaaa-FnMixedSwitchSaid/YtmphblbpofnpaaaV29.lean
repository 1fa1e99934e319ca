import Derived.Test.YtmphblbpofnpaaaS49
import Derived.Test.YtmphblbpofnpaaaS47
import Derived.Test.YtmphblbpofnpaaaMX
import Derived.Test.YtmphblbpofnpaaaE7
import Derived.Test.YtmphblbpofnpaaaD4
import Derived.Test.YtmphblbpofnpaaaV1
namespace Go.Proofs.Ytmphblbpofnpaaa
open Go.Abs Go.Ds
set_option linter.unusedSimpArgs false
set_option linter.unusedVariables false
set_option maxRecDepth 20000
set_option maxHeartbeats 4000000
theorem laws_sameMixed_ {σ : List AB} {x1 y1 x2 y2 : AV} {s1 s2 : Int} {X1 Y1 X2 Y2 : List Int} (h1 : Rd encInt σ x1 X1) (h2 : Rd encInt σ y1 Y1) (h3 : Rd encInt σ x2 X2) (h4 : Rd encInt σ y2 Y2) (l1 : X1.length ≤ 1000000) (l2 : Y1.length ≤ 1000000)
    {K : AV → List AB → Prop} (hk : K (.b (decide ((X1 = X2 ∧ Y1 = Y2) ∧ s1 = s2))) σ) : CallWp Try.prog n_laws_sameMixed [.agg [x1, y1, .i .i64 s1], .agg [x2, y2, .i .i64 s2]] σ K := by
  refine callC_laws_sameMixed (by simp) fun hC hA => ?_
  have d1 := h1.data
  have d2 := h2.data
  have d3 := h3.data
  have d4 := h4.data
  simp only [c_laws_sameMixed, List.append_assoc, at_new, at_new0, set_new, set_new0, d1, d2, d3, d4, not_true_eq_false, not_false_eq_true, decide_true, decide_false, Bool.not_true, Bool.not_false, false_implies, true_implies, and_true, true_and, Bool.false_eq_true, Bool.true_eq_false, implies_true, Bool.not_not, Classical.not_not, go_sem, Int.reduceToNat, List.take_nil, Nat.zero_mul, Nat.reduceEqDiff, Nat.reduceAdd, Nat.reduceLT, Nat.reduceLeDiff, Nat.reduceMul, ↓reduceIte, reduceCtorEq]
  have go : ∀ {τ : List AB} {v u : AV} {L M : List Int}, Rd encInt σ v L → Rd encInt σ u M → L.length ≤ 1000000 → ∀ {K : AV → List AB → Prop}, K (.b (decide (L = M))) (σ ++ τ) → CallWp Try.prog n_laws_sameInts [v, u] (σ ++ τ) K := fun a1 a2 a3 K hk => laws_sameInts_ (by omega) a1.app a2.app hk
  refine go h1 h3 l1 ?_
  simp only [List.append_assoc, at_new, at_new0, set_new, set_new0, d1, d2, d3, d4, not_true_eq_false, not_false_eq_true, decide_true, decide_false, Bool.not_true, Bool.not_false, false_implies, true_implies, and_true, true_and, Bool.false_eq_true, Bool.true_eq_false, implies_true, Bool.not_not, Classical.not_not, go_sem, Int.reduceToNat, List.take_nil, Nat.zero_mul, Nat.reduceEqDiff, Nat.reduceAdd, Nat.reduceLT, Nat.reduceLeDiff, Nat.reduceMul, ↓reduceIte, reduceCtorEq]
  by_cases e : X1 = X2
  · simp only [e, decide_true, true_and, d1, d2, d3, d4, at_new, at_new0, List.append_assoc, not_true_eq_false, not_false_eq_true, decide_true, decide_false, Bool.not_true, Bool.not_false, false_implies, true_implies, and_true, true_and, Bool.false_eq_true, Bool.true_eq_false, implies_true, Bool.not_not, Classical.not_not, go_sem, Int.reduceToNat, List.take_nil, Nat.zero_mul, Nat.reduceEqDiff, Nat.reduceAdd, Nat.reduceLT, Nat.reduceLeDiff, Nat.reduceMul, ↓reduceIte, reduceCtorEq] at hk ⊢
    refine go h2 h4 l2 ?_
    by_cases e2 : Y1 = Y2
    · simp only [e2, decide_true, true_and, d1, d2, d3, d4, at_new, at_new0, List.append_assoc, not_true_eq_false, not_false_eq_true, decide_true, decide_false, Bool.not_true, Bool.not_false, false_implies, true_implies, and_true, true_and, Bool.false_eq_true, Bool.true_eq_false, implies_true, Bool.not_not, Classical.not_not, go_sem, Int.reduceToNat, List.take_nil, Nat.zero_mul, Nat.reduceEqDiff, Nat.reduceAdd, Nat.reduceLT, Nat.reduceLeDiff, Nat.reduceMul, ↓reduceIte, reduceCtorEq] at hk ⊢
      exact Fin.drop hC (Nat.le_refl _) rfl hk
    · simp only [e2, decide_false, false_and, d1, d2, d3, d4, at_new, at_new0, List.append_assoc, not_true_eq_false, not_false_eq_true, decide_true, decide_false, Bool.not_true, Bool.not_false, false_implies, true_implies, and_true, true_and, Bool.false_eq_true, Bool.true_eq_false, implies_true, Bool.not_not, Classical.not_not, go_sem, Int.reduceToNat, List.take_nil, Nat.zero_mul, Nat.reduceEqDiff, Nat.reduceAdd, Nat.reduceLT, Nat.reduceLeDiff, Nat.reduceMul, ↓reduceIte, reduceCtorEq] at hk ⊢
      exact Fin.drop hC (Nat.le_refl _) rfl hk
  · simp only [e, decide_false, false_and, d1, d2, d3, d4, not_true_eq_false, not_false_eq_true, decide_true, decide_false, Bool.not_true, Bool.not_false, false_implies, true_implies, and_true, true_and, Bool.false_eq_true, Bool.true_eq_false, implies_true, Bool.not_not, Classical.not_not, go_sem, Int.reduceToNat, List.take_nil, Nat.zero_mul, Nat.reduceEqDiff, Nat.reduceAdd, Nat.reduceLT, Nat.reduceLeDiff, Nat.reduceMul, ↓reduceIte, reduceCtorEq] at hk ⊢
    exact Fin.drop hC (Nat.le_refl _) rfl hk
theorem scale_any (S : List MTask) : ∃ nu de, scaleR S = some (nu, de) ∨ scaleR S = none := by
  cases h : scaleR S with
  | none => exact ⟨0, 0, .inr rfl⟩
  | some p => exact ⟨p.1, p.2, .inl rfl⟩
theorem laws_FnMixedSwitch0 (C : List Nat) (hC : ∀ x ∈ C, x < 256) (c : Nat) (hc : C.length ≤ c) : CallWp Try.prog n_laws_FnMixedSwitch [.sl 0 0 C.length c] [.ro (encByte.row C)] (fun x _ => x = .b true) := by
  refine call_laws_FnMixedSwitch (by simp) ?_
  simp only [c_laws_FnMixedSwitch, go_sem, Int.reduceToNat, List.take_nil, Nat.zero_mul, Nat.reduceEqDiff, Nat.reduceAdd, Nat.reduceLT, Nat.reduceLeDiff, Nat.reduceMul, ↓reduceIte, reduceCtorEq]
  refine ⟨fun h => Fin.plain rfl, fun h => ?_⟩
  refine (spec_DrawRunMixed0 C hC c hc).mono ?_
  rintro x σ' _ ⟨S, L, cap, cap', rfl, rfl, hS8, hL62⟩
  simp only [go_sem, Int.reduceToNat, List.take_nil, Nat.zero_mul, Nat.reduceEqDiff, Nat.reduceAdd, Nat.reduceLT, Nat.reduceLeDiff, Nat.reduceMul, ↓reduceIte, reduceCtorEq]
  obtain ⟨nu, de, hsc⟩ := scale_any S
  have hR := mixRun_length S nu de L
  have hF := mixFin_length S nu de L
  by_cases hv : mixRunOk S L nu de
  · refine impl_RunMixed_ (S := S) (L := L) hsc (by omega) (by omega) (Rd.own rfl) (Rd.own rfl) (fun hno => absurd hv hno) (fun _ c1 c2 => ?_)
    simp only [go_sem, Int.reduceToNat, List.take_nil, Nat.zero_mul, Nat.reduceEqDiff, Nat.reduceAdd, Nat.reduceLT, Nat.reduceLeDiff, Nat.reduceMul, ↓reduceIte, reduceCtorEq]
    refine spec_RunMixed_ (S := S) (L := L) hsc (by omega) (by omega) (Rd.own rfl) (Rd.own rfl) (fun hno => absurd hv hno) (fun _ => ?_)
    rintro x τ (⟨hno, _⟩ | ⟨_, d1, d2, ⟨hne, rfl, rfl⟩ | ⟨hne, rfl, rfl⟩⟩)
    · exact absurd trivial hno
    all_goals
      simp only [go_sem, Int.reduceToNat, List.take_nil, Nat.zero_mul, Nat.reduceEqDiff, Nat.reduceAdd, Nat.reduceLT, Nat.reduceLeDiff, Nat.reduceMul, ↓reduceIte, reduceCtorEq]
      refine laws_sameMixed_ (X1 := mixRun S nu de L) (Y1 := mixFin S nu de L) (X2 := mixRun S nu de L) (Y2 := mixFin S nu de L) (Rd.len' rfl hR) (Rd.len' rfl hF) (Rd.len' rfl hR) (by first | exact Rd.own rfl | (rw [hne]; exact Rd.none (by simp))) (by omega) (by omega) ?_
      simp only [not_true_eq_false, not_false_eq_true, decide_true, decide_false, Bool.not_true, Bool.not_false, false_implies, true_implies, and_true, true_and, Bool.false_eq_true, Bool.true_eq_false, implies_true, Bool.not_not, Classical.not_not, go_sem, Int.reduceToNat, List.take_nil, Nat.zero_mul, Nat.reduceEqDiff, Nat.reduceAdd, Nat.reduceLT, Nat.reduceLeDiff, Nat.reduceMul, ↓reduceIte, reduceCtorEq]
      refine ⟨fun h => absurd rfl h, fun _ => ?_⟩
      have hsw := mix_sw (S := S) (nu := nu) (de := de) (L := L)
      refine seq_join (fun i : Int => ⟨[(3, .sl 1 0 S.length cap), (4, .sl 2 0 L.length cap'), (5, .p 5 0), (6, .i .i64 i)], [.ro (encByte.row C), .rw ty_impl_MixedTask (encMT.row S) (cap * 4), .rw ty_impl_Job (encJob.row L) (cap' * 4), .rw ty_int (encInt.row (mixRun S nu de L)) c1, .rw ty_int (encInt.row (mixFin S nu de L)) c2, .rw ty_impl_MixedRun [.sl 3 0 120 c1, .sl 4 0 L.length c2, .i .i64 (mixSw S nu de L)] 3]⟩)
        (fun i => i = if mixSw S nu de L < 0 then 120 else mixSw S nu de L) ?_ ?_
      · simp only [not_true_eq_false, not_false_eq_true, decide_true, decide_false, Bool.not_true, Bool.not_false, false_implies, true_implies, and_true, true_and, Bool.false_eq_true, Bool.true_eq_false, implies_true, Bool.not_not, Classical.not_not, go_sem, Int.reduceToNat, List.take_nil, Nat.zero_mul, Nat.reduceEqDiff, Nat.reduceAdd, Nat.reduceLT, Nat.reduceLeDiff, Nat.reduceMul, ↓reduceIte, reduceCtorEq]
        refine ⟨fun hb => ?_, fun hb => ?_⟩
        · exact kJ_intro 120 (by rw [if_pos hb]) (Wk.pick [0, 1, 2, 3, 4, 5])
        · exact kJ_intro (mixSw S nu de L) (by rw [if_neg hb]) (Wk.pick [0, 1, 2, 3, 4, 5])
      · intro i hi
        replace hi : i = if mixSw S nu de L < 0 then 120 else mixSw S nu de L := hi
        have hi' : (0 ≤ i ∧ i ≤ 120) ∧ (mixSw S nu de L < 0 ∨ i = mixSw S nu de L) := by
          rw [hi]; split <;> omega
        simp only [not_true_eq_false, not_false_eq_true, decide_true, decide_false, Bool.not_true, Bool.not_false, false_implies, true_implies, and_true, true_and, Bool.false_eq_true, Bool.true_eq_false, implies_true, Bool.not_not, Classical.not_not, go_sem, Int.reduceToNat, List.take_nil, Nat.zero_mul, Nat.reduceEqDiff, Nat.reduceAdd, Nat.reduceLT, Nat.reduceLeDiff, Nat.reduceMul, ↓reduceIte, reduceCtorEq]
        refine ⟨by omega, ?_⟩
        obtain ⟨N, rfl⟩ := Int.eq_ofNat_of_zero_le hi'.1.1
        rw [show rep L.length [AV.i .i64 0] = encInt.row (mixS S nu de L 0).done from encInt.rep 0 _]
        refine loop_count N (fun k => ⟨[(3, .sl 1 0 S.length cap), (4, .sl 2 0 L.length cap'), (5, .p 5 0), (6, .i .i64 N), (7, .sl 6 0 L.length L.length), (8, .i .i64 k)], [.ro (encByte.row C), .rw ty_impl_MixedTask (encMT.row S) (cap * 4), .rw ty_impl_Job (encJob.row L) (cap' * 4), .rw ty_int (encInt.row (mixRun S nu de L)) c1, .rw ty_int (encInt.row (mixFin S nu de L)) c2, .rw ty_impl_MixedRun [.sl 3 0 120 c1, .sl 4 0 L.length c2, .i .i64 (mixSw S nu de L)] 3, .rw ty_int (encInt.row (mixS S nu de L k).done) L.length]⟩)
          (fun _ => True) trivial (Wk.pick [0, 1, 2, 3, 4, 5, 6]) fun k hk _ => ?_
        simp only [l0_laws_FnMixedSwitch, not_true_eq_false, not_false_eq_true, decide_true, decide_false, Bool.not_true, Bool.not_false, false_implies, true_implies, and_true, true_and, Bool.false_eq_true, Bool.true_eq_false, implies_true, Bool.not_not, Classical.not_not, go_sem, Int.reduceToNat, List.take_nil, Nat.zero_mul, Nat.reduceEqDiff, Nat.reduceAdd, Nat.reduceLT, Nat.reduceLeDiff, Nat.reduceMul, ↓reduceIte, reduceCtorEq]
        refine ⟨fun hl => ?_, fun hl => Fin.plain rfl⟩
        have hkR : k < (mixRun S nu de L).length := by omega
        have hdl := (sim_lens (L := L) (pick := mixPick S nu de L) (s0 := mix0) k).1
        rcases mix_tick (S := S) (nu := nu) (de := de) (L := L) (show k < 120 by omega) hkR with ⟨e, f1, f2⟩ | ⟨n, hn, e, f1, f2, f3⟩
        · simp only [rdI hkR, e, lenI, hR, hF, not_true_eq_false, not_false_eq_true, decide_true, decide_false, Bool.not_true, Bool.not_false, false_implies, true_implies, and_true, true_and, Bool.false_eq_true, Bool.true_eq_false, implies_true, Bool.not_not, Classical.not_not, go_sem, Int.reduceToNat, List.take_nil, Nat.zero_mul, Nat.reduceEqDiff, Nat.reduceAdd, Nat.reduceLT, Nat.reduceLeDiff, Nat.reduceMul, ↓reduceIte, reduceCtorEq]
          refine ⟨by omega, by omega, fun _ => ⟨by omega, by omega, ?_⟩, fun h => absurd h (by decide)⟩
          rw [f1]
          exact Wk.pick [0, 1, 2, 3, 4, 5, 6]
        · obtain ⟨t, ht, et, hr1, hr2, hr3, hok⟩ := mix_row hv.2 hn
          have hnd : n < (mixS S nu de L k).done.length := by rw [hdl]; exact hn
          have hsl : ((mixS S nu de L k).done.set n ((mixS S nu de L k).done[n] + 1)).length = L.length := by rw [List.length_set]; exact hdl
          have hnd' : n < ((mixS S nu de L k).done.set n ((mixS S nu de L k).done[n] + 1)).length := by rw [hsl]; exact hn
          have hat : ((mixS S nu de L k).done.set n ((mixS S nu de L k).done[n] + 1))[n]'hnd' = (mixS S nu de L k).done[n] + 1 := List.getElem_set_self ..
          have hgi : gI (mixS S nu de L k).done n = (mixS S nu de L k).done[n] := gI_row hnd
          have hdb := sim_done (L := L) (pick := mixPick S nu de L) (s0 := mix0) (fun st now done => by rcases pick_fairM S nu de L st now done with e | ⟨n, e, hn, _⟩ <;> omega) k n hn
          rw [show (sim L (mixPick S nu de L) mix0 k).done = (mixS S nu de L k).done from rfl, hgi] at hdb
          rw [et, gM_nat ht, hgi] at f3
          rw [hgi] at f2
          have hk3 := hsw.2 k (by omega) (by omega)
          unfold MTask.ok at hok
          simp only [rdI hkR, e, lenI, hR, hF, Int.toNat_natCast, rdI hnd, splI hnd, rdJ0 hn, rdJ3 hn, rdI hnd', hat, et, winM ht, encMf, lenJ, lenM, hsl, hdl, not_true_eq_false, not_false_eq_true, decide_true, decide_false, Bool.not_true, Bool.not_false, false_implies, true_implies, and_true, true_and, Bool.false_eq_true, Bool.true_eq_false, implies_true, Bool.not_not, Classical.not_not, go_sem, Int.reduceToNat, List.take_nil, Nat.zero_mul, Nat.reduceEqDiff, Nat.reduceAdd, Nat.reduceLT, Nat.reduceLeDiff, Nat.reduceMul, ↓reduceIte, reduceCtorEq]
          refine ⟨by omega, by omega, fun h => absurd h (by omega), fun _ => ?_⟩
          iterate 9 refine ⟨by omega, ?_⟩
          rw [f2]
          have hno : ¬ overJ S L (mixS S nu de L k).done (mixPick S nu de L (mixS S nu de L k).st k (mixS S nu de L k).done).1 → decide ((k : Int) = mixSw S nu de L - 1) = false := fun h => decide_eq_false fun hh => h (hk3.2 hh)
          refine bc_of (fun hV => ?_) (fun hV => ?_)
          · refine ⟨by omega, by omega, fun h2 => ⟨by omega, by omega, by omega, fun h3 => absurd ?_ h3, fun _ => ⟨by omega, by omega, Wk.pick [0, 1, 2, 3, 4, 5, 6]⟩⟩, fun h2 => ⟨by omega, fun h3 => absurd ?_ h3, fun _ => ⟨by omega, by omega, Wk.pick [0, 1, 2, 3, 4, 5, 6]⟩⟩⟩
            · by_cases h4 : S[t].Lo < L[n].E
              · rw [decide_eq_true h4, decide_eq_true (hk3.1 (f3.2 ⟨hV, h2, by omega⟩))]
              · rw [decide_eq_false h4, hno fun h => by have := f3.1 h; omega]
            · rw [hno fun h => h2 (f3.1 h).2.1]
          · refine ⟨by omega, fun h3 => absurd ?_ h3, fun _ => ⟨by omega, by omega, Wk.pick [0, 1, 2, 3, 4, 5, 6]⟩⟩
            rw [hno fun h => by have := (f3.1 h).1; rw [hV] at this; cases this]
  · refine impl_RunMixed_ (S := S) (L := L) hsc (by omega) (by omega) (Rd.own rfl) (Rd.own rfl) (fun _ => ?_) (fun h => absurd h hv)
    simp only [go_sem, Int.reduceToNat, List.take_nil, Nat.zero_mul, Nat.reduceEqDiff, Nat.reduceAdd, Nat.reduceLT, Nat.reduceLeDiff, Nat.reduceMul, ↓reduceIte, reduceCtorEq]
    refine spec_RunMixed_ (S := S) (L := L) hsc (by omega) (by omega) (Rd.own rfl) (Rd.own rfl) (fun _ => ?_) (fun h => absurd h hv)
    simp only [go_sem, Int.reduceToNat, List.take_nil, Nat.zero_mul, Nat.reduceEqDiff, Nat.reduceAdd, Nat.reduceLT, Nat.reduceLeDiff, Nat.reduceMul, ↓reduceIte, reduceCtorEq]
    refine laws_sameMixed_ (X1 := []) (Y1 := []) (X2 := []) (Y2 := []) (Rd.none (by simp)) (Rd.none (by simp)) (Rd.none (by simp)) (Rd.none (by simp)) (by simp) (by simp) ?_
    simp only [not_true_eq_false, not_false_eq_true, decide_true, decide_false, Bool.not_true, Bool.not_false, false_implies, true_implies, and_true, true_and, Bool.false_eq_true, Bool.true_eq_false, implies_true, Bool.not_not, Classical.not_not, go_sem, Int.reduceToNat, List.take_nil, Nat.zero_mul, Nat.reduceEqDiff, Nat.reduceAdd, Nat.reduceLT, Nat.reduceLeDiff, Nat.reduceMul, ↓reduceIte, reduceCtorEq]
    refine ⟨fun _ => laws_alive_ ?_, fun h => absurd h (by decide)⟩
    simp only [not_true_eq_false, not_false_eq_true, decide_true, decide_false, Bool.not_true, Bool.not_false, false_implies, true_implies, and_true, true_and, Bool.false_eq_true, Bool.true_eq_false, implies_true, Bool.not_not, Classical.not_not, go_sem, Int.reduceToNat, List.take_nil, Nat.zero_mul, Nat.reduceEqDiff, Nat.reduceAdd, Nat.reduceLT, Nat.reduceLeDiff, Nat.reduceMul, ↓reduceIte, reduceCtorEq]
    exact Fin.plain rfl
theorem c_FnMixedSwitch (C : List Nat) (c : Nat) (hC : ∀ x ∈ C, x < 256) (_ : C.length * 1 ≤ 140737488351232) (hc : C.length ≤ c) : CallWp Try.prog n_laws_FnMixedSwitch [.sl 0 0 C.length c] [.ro (encByte.row C)] (fun x _ => x = .b true) := laws_FnMixedSwitch0 C hC c hc
end Go.Proofs.Ytmphblbpofnpaaa
