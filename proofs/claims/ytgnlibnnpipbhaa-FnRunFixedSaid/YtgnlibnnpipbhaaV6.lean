/- The law FnRunFixed answers true: over the abstract heap. -/
import Derived.Test.YtgnlibnnpipbhaaV5
import Derived.Test.YtgnlibnnpipbhaaM9
namespace Go.Proofs.Ytgnlibnnpipbhaa
open Go.Abs Go.Ds
set_option linter.unusedSimpArgs false
set_option linter.unusedVariables false
set_option maxRecDepth 20000
set_option maxHeartbeats 2000000

theorem low_key {S : List Task} {O : List Int} {L : List Job} (h : ordOk S O) (hl : jobsLegal S L) {n : Nat} (hn : n < O.length) (he : n + 1 = O.length) : ∀ a ∈ L, ∀ b ∈ L, notT O[n] a = true → notT O[n] b = false → rk O a.T < rk O b.T := by
  intro a ha b hb h1 h2
  simp only [notT, decide_eq_true_eq, decide_eq_false_iff_not, Classical.not_not] at h1 h2
  have ma := (hl.2.1.mem ha).1
  obtain ⟨m, hm, e⟩ := List.getElem_of_mem (ord_all h ma.1 ma.2)
  rw [h2, ← e]
  change rank O O[m] < rank O O[n]
  rw [rank_at h hm, rank_at h hn]
  have : m ≠ n := fun e2 => by subst e2; exact h1 e.symm
  omega

theorem laws_FnRunFixed0 (C : List Nat) (hC : ∀ x ∈ C, x < 256) (c : Nat) (hc : C.length ≤ c) : CallWp Try.prog n_laws_FnRunFixed [.sl 0 0 C.length c] [.ro (encByte.row C)] (fun x _ => x = .b true) := by
  refine call_laws_FnRunFixed (by simp) ?_
  simp only [c_laws_FnRunFixed, go_sem, Int.reduceToNat, List.take_nil, Nat.zero_mul, Nat.reduceEqDiff, Nat.reduceAdd, Nat.reduceLT, Nat.reduceLeDiff, Nat.reduceMul, ↓reduceIte, reduceCtorEq]
  refine ⟨fun h => Fin.plain rfl, fun h => ?_⟩
  refine (spec_DrawRunFixed0 C hC c hc).mono ?_
  rintro x σ' _ ⟨S, O, L, cap, cap3, cap', rfl, rfl, ⟨hS8, hSw⟩, ⟨hO9, hOw⟩, hL62, hLw⟩
  simp only [go_sem, Int.reduceToNat, List.take_nil, Nat.zero_mul, Nat.reduceEqDiff, Nat.reduceAdd, Nat.reduceLT, Nat.reduceLeDiff, Nat.reduceMul, ↓reduceIte, reduceCtorEq]
  have hR := fixRun_length O L
  have hF := fixFin_length O L
  by_cases hv : ordOk S O ∧ jobsLegal S L
  · refine impl_RunFixed_ (S := S) (O := O) (L := L) (by omega) (by omega) (by omega) (Rd.own rfl) (Rd.own rfl) (Rd.own rfl) (fun hno => absurd hv hno) (fun _ c1 c2 => ?_)
    simp only [go_sem, Int.reduceToNat, List.take_nil, Nat.zero_mul, Nat.reduceEqDiff, Nat.reduceAdd, Nat.reduceLT, Nat.reduceLeDiff, Nat.reduceMul, ↓reduceIte, reduceCtorEq]
    refine spec_RunFixed_ (S := S) (O := O) (L := L) (by omega) (by omega) (by omega) (Rd.own rfl) (Rd.own rfl) (Rd.own rfl) (fun hno => absurd hv hno) (fun _ => ?_)
    rintro x τ (⟨hno, _⟩ | ⟨_, d1, d2, ⟨hne, rfl, rfl⟩ | ⟨hne, rfl, rfl⟩⟩)
    · exact absurd trivial hno
    all_goals
      simp only [go_sem, Int.reduceToNat, List.take_nil, Nat.zero_mul, Nat.reduceEqDiff, Nat.reduceAdd, Nat.reduceLT, Nat.reduceLeDiff, Nat.reduceMul, ↓reduceIte, reduceCtorEq]
      refine laws_sameSchedule_ (X1 := fixRun O L) (Y1 := fixFin O L) (X2 := fixRun O L) (Y2 := fixFin O L) (Rd.len' rfl hR) (Rd.len' rfl hF) (Rd.len' rfl hR) (by first | exact Rd.own rfl | (rw [hne]; exact Rd.none (by simp))) (by omega) (by omega) ?_
      simp only [not_true_eq_false, not_false_eq_true, decide_true, decide_false, Bool.not_true, Bool.not_false, false_implies, true_implies, and_true, true_and, Bool.false_eq_true, Bool.true_eq_false, implies_true, Bool.not_not, Classical.not_not, go_sem, Int.reduceToNat, List.take_nil, Nat.zero_mul, Nat.reduceEqDiff, Nat.reduceAdd, Nat.reduceLT, Nat.reduceLeDiff, Nat.reduceMul, ↓reduceIte, reduceCtorEq]
      refine spec_OrderValid_ (S := S) (O := O) (by omega) (by omega) (Rd.own rfl) (Rd.own rfl) ?_
      simp only [hv.1, not_true_eq_false, not_false_eq_true, decide_true, decide_false, Bool.not_true, Bool.not_false, false_implies, true_implies, and_true, true_and, Bool.false_eq_true, Bool.true_eq_false, implies_true, Bool.not_not, Classical.not_not, go_sem, Int.reduceToNat, List.take_nil, Nat.zero_mul, Nat.reduceEqDiff, Nat.reduceAdd, Nat.reduceLT, Nat.reduceLeDiff, Nat.reduceMul, ↓reduceIte, reduceCtorEq]
      refine spec_JobsLegal_ (S := S) (L := L) (by omega) (by omega) (Rd.own rfl) (Rd.own rfl) ?_
      have hOl := hv.1.2.1
      have hS5 := hv.1.1.1
      simp only [hv.2, lenI, not_true_eq_false, not_false_eq_true, decide_true, decide_false, Bool.not_true, Bool.not_false, false_implies, true_implies, and_true, true_and, Bool.false_eq_true, Bool.true_eq_false, implies_true, Bool.not_not, Classical.not_not, go_sem, Int.reduceToNat, List.take_nil, Nat.zero_mul, Nat.reduceEqDiff, Nat.reduceAdd, Nat.reduceLT, Nat.reduceLeDiff, Nat.reduceMul, ↓reduceIte, reduceCtorEq]
      refine ⟨fun _ => laws_alive_ ?_, fun h0 => ?_⟩
      · simp only [not_true_eq_false, not_false_eq_true, decide_true, decide_false, Bool.not_true, Bool.not_false, false_implies, true_implies, and_true, true_and, Bool.false_eq_true, Bool.true_eq_false, implies_true, Bool.not_not, Classical.not_not, go_sem, Int.reduceToNat, List.take_nil, Nat.zero_mul, Nat.reduceEqDiff, Nat.reduceAdd, Nat.reduceLT, Nat.reduceLeDiff, Nat.reduceMul, ↓reduceIte, reduceCtorEq]
        exact Fin.plain rfl
      have hn : O.length - 1 < O.length := by omega
      have en : ((O.length : Int) - 1).toNat = O.length - 1 := by omega
      have hOb := hv.1.2.2.1 _ (List.getElem_mem hn)
      have hlow := low_key hv.1 hv.2 hn (by omega)
      have hkp := kept (L := L) (p := notT O[O.length - 1]) (key := fun j => rk O j.T) (pick := fixPick O L) (pick' := fixPick O (L.filter (notT O[O.length - 1]))) (fun _ _ => rfl) (fun _ _ => rfl) hlow 120
      have hlf := legal_filter hv.2 O[O.length - 1]
      simp only [en, rdI hn, not_true_eq_false, not_false_eq_true, decide_true, decide_false, Bool.not_true, Bool.not_false, false_implies, true_implies, and_true, true_and, Bool.false_eq_true, Bool.true_eq_false, implies_true, Bool.not_not, Classical.not_not, go_sem, Int.reduceToNat, List.take_nil, Nat.zero_mul, Nat.reduceEqDiff, Nat.reduceAdd, Nat.reduceLT, Nat.reduceLeDiff, Nat.reduceMul, ↓reduceIte, reduceCtorEq]
      generalize O[O.length - 1] = low at *
      refine ⟨by omega, by omega, by omega, ?_⟩
      have hcl : ∀ k, cnt (notT low) L k = ((L.take k).filter (notT low)).length := fun _ => rfl
      refine loop_intro (fun i : Nat × Nat × List Int × Nat => ⟨[(3, .sl 1 0 S.length cap), (4, .sl 2 0 O.length cap3), (5, .sl 3 0 L.length cap'), (6, .p 6 0), (7, .i .i64 low), (8, .sl 7 0 ((L.take i.1).filter (notT low)).length i.2.1), (9, .sl 8 0 i.2.2.1.length i.2.2.2), (10, .i .i64 i.1)], [.ro (encByte.row C), .rw ty_impl_Task (encTask.row S) (cap * 3), .rw ty_int (encInt.row O) cap3, .rw ty_impl_Job (encJob.row L) (cap' * 4), .rw ty_int (encInt.row (fixRun O L)) c1, .rw ty_int (encInt.row (fixFin O L)) c2, .rw ty_impl_Schedule [.sl 4 0 120 c1, .sl 5 0 L.length c2] 2, .rw ty_impl_Job (encJob.row ((L.take i.1).filter (notT low))) (i.2.1 * 4), .rw ty_int (encInt.row i.2.2.1) i.2.2.2]⟩)
        (fun i => i.1 ≤ L.length ∧ i.2.2.1.length = cnt (notT low) L i.1 ∧ ∀ m (hm : m < L.length), m < i.1 → notT low L[m] = true → gI i.2.2.1 (cnt (notT low) L m) = gI (fixFin O L) m) (fun i => L.length - i.1) (0, 0, [], 0) ⟨Nat.zero_le _, rfl, fun m _ hm => absurd hm (by simp)⟩ (by first | exact Wk.pick [0, 1, 2, 3, 4, 5, 6, 9, 10] | exact Wk.pick [0, 1, 2, 3, 4, 5, 6, 8, 9]) ?_
      rintro ⟨k, capR, G, capG⟩ ⟨hk, hG, hJ⟩
      simp only at hk hG hJ
      have hcb : cnt (notT low) L k ≤ k := by rw [hcl]; exact Nat.le_trans (List.length_filter_le _ _) (by rw [List.length_take]; omega)
      simp only [l0_laws_FnRunFixed, not_true_eq_false, not_false_eq_true, decide_true, decide_false, Bool.not_true, Bool.not_false, false_implies, true_implies, and_true, true_and, Bool.false_eq_true, Bool.true_eq_false, implies_true, Bool.not_not, Classical.not_not, go_sem, Int.reduceToNat, List.take_nil, Nat.zero_mul, Nat.reduceEqDiff, Nat.reduceAdd, Nat.reduceLT, Nat.reduceLeDiff, Nat.reduceMul, ↓reduceIte, reduceCtorEq]
      refine ⟨fun hlt => ?_, fun hge => ?_⟩
      · have hkF : k < (fixFin O L).length := by omega
        simp only [rdJ0 hlt, winJ hlt, encJ, rdI hkF, lenI, lenJ, hF, not_true_eq_false, not_false_eq_true, decide_true, decide_false, Bool.not_true, Bool.not_false, false_implies, true_implies, and_true, true_and, Bool.false_eq_true, Bool.true_eq_false, implies_true, Bool.not_not, Classical.not_not, go_sem, Int.reduceToNat, List.take_nil, Nat.zero_mul, Nat.reduceEqDiff, Nat.reduceAdd, Nat.reduceLT, Nat.reduceLeDiff, Nat.reduceMul, ↓reduceIte, reduceCtorEq]
        have et4 : ∀ a b c d : AV, List.take 4 [a, b, c, d] = [a, b, c, d] := fun _ _ _ _ => rfl
        refine ⟨by omega, by omega, fun hne2 => ?_, fun heq => ?_⟩
        · have hp : notT low L[k] = true := by simp [notT, hne2]
          have hc1 := cnt_yes hlt hp
          have eF : (L.take (k + 1)).filter (notT low) = (L.take k).filter (notT low) ++ [⟨L[k].T, L[k].R, L[k].D, L[k].E⟩] := by
            rw [List.take_succ_eq_append_getElem hlt, List.filter_append]; simp [hp]
          have eG : List.take G.length (encInt.row G) ++ [AV.i IntKind.i64 (fixFin O L)[k]] = encInt.row (G ++ [(fixFin O L)[k]]) := by
            rw [List.take_of_length_le (by rw [lenI]; omega), appI]
          have hcl1 := hcl k
          refine ⟨hlt, by omega, by omega, fun capR' hcR => ⟨hlt, hlt, by omega, fun capG' hcG => ⟨by omega, (k + 1, capR', G ++ [(fixFin O L)[k]], capG'), ⟨⟨by simp only; omega, by simp only [List.length_append, List.length_cons, List.length_nil]; omega, fun m hm hmk hpm => ?_⟩, by simp only; omega⟩, ?_⟩⟩⟩
          · simp only at hmk ⊢
            by_cases e : m = k
            · subst e
              rw [gI_last hG, gI_row hkF]
            · have := cnt_lt hm hpm (show m < k by omega) (by omega)
              rw [gI_app (by omega)]
              exact hJ m hm (by omega) hpm
          · simp only [eF, eG, et4, takeJ, appJ, List.length_append, List.length_cons, List.length_nil, Nat.zero_add]
            exact Wk.pick [0, 1, 2, 3, 4, 5, 6, 10, 12]
        · have hp : notT low L[k] = false := by simp [notT, heq]
          have hc1 := cnt_no hlt hp
          have eF : (L.take (k + 1)).filter (notT low) = (L.take k).filter (notT low) := by
            rw [List.take_succ_eq_append_getElem hlt, List.filter_append]; simp [hp]
          refine ⟨by omega, (k + 1, capR, G, capG), ⟨⟨by simp only; omega, by simp only; omega, fun m hm hmk hpm => ?_⟩, by simp only; omega⟩, ?_⟩
          · simp only at hmk ⊢
            refine hJ m hm ?_ hpm
            have : m ≠ k := fun e => by subst e; rw [hpm] at hp; cases hp
            omega
          · simp only [eF]; exact Wk.pick [0, 1, 2, 3, 4, 5, 6, 7, 8]
      · have ek : k = L.length := by omega
        subst ek
        rw [List.take_length]
        have hFl : (L.filter (notT low)).length ≤ L.length := List.length_filter_le _ _
        have hfl := fixFin_length O (L.filter (notT low))
        refine impl_RunFixed_ (S := S) (O := O) (L := L.filter (notT low)) (by omega) (by omega) (by omega) (Rd.own rfl) (Rd.own rfl) (Rd.own rfl) (fun hno => absurd ⟨hv.1, hlf⟩ hno) (fun _ e1 e2 => ?_)
        simp only [go_sem, Int.reduceToNat, List.take_nil, Nat.zero_mul, Nat.reduceEqDiff, Nat.reduceAdd, Nat.reduceLT, Nat.reduceLeDiff, Nat.reduceMul, ↓reduceIte, reduceCtorEq]
        refine laws_sameInts_ (L := fixFin O (L.filter (notT low))) (M := G) (by omega) (Rd.len' rfl hfl) (Rd.own rfl) ?_
        have eq : fixFin O (L.filter (notT low)) = G := by
          apply List.ext_getElem
          · rw [hfl, hG, cnt_all]
          · intro j h1 h2
            obtain ⟨i, hi, _, hpi, rfl⟩ := cnt_surj (p := notT low) (L := L) (Nat.le_refl _) (show j < cnt (notT low) L L.length by omega)
            rw [← gI_row h1, ← gI_row h2, hJ i hi hi hpi]
            exact (hkp i hi hpi).2.symm
        simp only [eq, not_true_eq_false, not_false_eq_true, decide_true, decide_false, Bool.not_true, Bool.not_false, false_implies, true_implies, and_true, true_and, Bool.false_eq_true, Bool.true_eq_false, implies_true, Bool.not_not, Classical.not_not, go_sem, Int.reduceToNat, List.take_nil, Nat.zero_mul, Nat.reduceEqDiff, Nat.reduceAdd, Nat.reduceLT, Nat.reduceLeDiff, Nat.reduceMul, ↓reduceIte, reduceCtorEq]
        exact Fin.plain rfl
  · refine impl_RunFixed_ (S := S) (O := O) (L := L) (by omega) (by omega) (by omega) (Rd.own rfl) (Rd.own rfl) (Rd.own rfl) (fun _ => ?_) (fun h => absurd h hv)
    simp only [go_sem, Int.reduceToNat, List.take_nil, Nat.zero_mul, Nat.reduceEqDiff, Nat.reduceAdd, Nat.reduceLT, Nat.reduceLeDiff, Nat.reduceMul, ↓reduceIte, reduceCtorEq]
    refine spec_RunFixed_ (S := S) (O := O) (L := L) (by omega) (by omega) (by omega) (Rd.own rfl) (Rd.own rfl) (Rd.own rfl) (fun _ => ?_) (fun h => absurd h hv)
    simp only [go_sem, Int.reduceToNat, List.take_nil, Nat.zero_mul, Nat.reduceEqDiff, Nat.reduceAdd, Nat.reduceLT, Nat.reduceLeDiff, Nat.reduceMul, ↓reduceIte, reduceCtorEq]
    refine laws_sameSchedule_ (X1 := []) (Y1 := []) (X2 := []) (Y2 := []) (Rd.none (by simp)) (Rd.none (by simp)) (Rd.none (by simp)) (Rd.none (by simp)) (by simp) (by simp) ?_
    simp only [not_true_eq_false, not_false_eq_true, decide_true, decide_false, Bool.not_true, Bool.not_false, false_implies, true_implies, and_true, true_and, Bool.false_eq_true, Bool.true_eq_false, implies_true, Bool.not_not, Classical.not_not, go_sem, Int.reduceToNat, List.take_nil, Nat.zero_mul, Nat.reduceEqDiff, Nat.reduceAdd, Nat.reduceLT, Nat.reduceLeDiff, Nat.reduceMul, ↓reduceIte, reduceCtorEq]
    refine spec_OrderValid_ (S := S) (O := O) (by omega) (by omega) (Rd.own rfl) (Rd.own rfl) ?_
    simp only [not_true_eq_false, not_false_eq_true, decide_true, decide_false, Bool.not_true, Bool.not_false, false_implies, true_implies, and_true, true_and, Bool.false_eq_true, Bool.true_eq_false, implies_true, Bool.not_not, Classical.not_not, go_sem, Int.reduceToNat, List.take_nil, Nat.zero_mul, Nat.reduceEqDiff, Nat.reduceAdd, Nat.reduceLT, Nat.reduceLeDiff, Nat.reduceMul, ↓reduceIte, reduceCtorEq]
    refine ⟨fun h1 => spec_JobsLegal_ (S := S) (L := L) (by omega) (by omega) (Rd.own rfl) (Rd.own rfl) ?_, fun h1 => laws_alive_ ?_⟩
    · have hnl : ¬ jobsLegal S L := fun h2 => hv ⟨h1, h2⟩
      simp only [hnl, not_true_eq_false, not_false_eq_true, decide_true, decide_false, Bool.not_true, Bool.not_false, false_implies, true_implies, and_true, true_and, Bool.false_eq_true, Bool.true_eq_false, implies_true, Bool.not_not, Classical.not_not, go_sem, Int.reduceToNat, List.take_nil, Nat.zero_mul, Nat.reduceEqDiff, Nat.reduceAdd, Nat.reduceLT, Nat.reduceLeDiff, Nat.reduceMul, ↓reduceIte, reduceCtorEq]
      refine laws_alive_ ?_
      simp only [not_true_eq_false, not_false_eq_true, decide_true, decide_false, Bool.not_true, Bool.not_false, false_implies, true_implies, and_true, true_and, Bool.false_eq_true, Bool.true_eq_false, implies_true, Bool.not_not, Classical.not_not, go_sem, Int.reduceToNat, List.take_nil, Nat.zero_mul, Nat.reduceEqDiff, Nat.reduceAdd, Nat.reduceLT, Nat.reduceLeDiff, Nat.reduceMul, ↓reduceIte, reduceCtorEq]
      exact Fin.plain rfl
    · simp only [not_true_eq_false, not_false_eq_true, decide_true, decide_false, Bool.not_true, Bool.not_false, false_implies, true_implies, and_true, true_and, Bool.false_eq_true, Bool.true_eq_false, implies_true, Bool.not_not, Classical.not_not, go_sem, Int.reduceToNat, List.take_nil, Nat.zero_mul, Nat.reduceEqDiff, Nat.reduceAdd, Nat.reduceLT, Nat.reduceLeDiff, Nat.reduceMul, ↓reduceIte, reduceCtorEq]
      exact Fin.plain rfl

theorem c_FnRunFixed (C : List Nat) (c : Nat) (hC : ∀ x ∈ C, x < 256) (_ : C.length * 1 ≤ 140737488351232) (hc : C.length ≤ c) : CallWp Try.prog n_laws_FnRunFixed [.sl 0 0 C.length c] [.ro (encByte.row C)] (fun x _ => x = .b true) := laws_FnRunFixed0 C hC c hc
end Go.Proofs.Ytgnlibnnpipbhaa
