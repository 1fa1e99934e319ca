import Derived.Test.YtnlciginmeebhaaS3
import Derived.Test.YtnlciginmeebhaaMM
namespace Go.Proofs.Ytnlciginmeebhaa
open Go.Abs Go.Ds
set_option linter.unusedSimpArgs false
set_option linter.unusedVariables false
set_option maxRecDepth 20000
set_option maxHeartbeats 2000000
theorem impl_simulateS_ {ι : Type} {Hp : ι → List AB} {N j c : Nat} {f : Nat} {first caps : List (Nat × Nat)} {L : List Job} (pick : ι → Nat → List Int → Int × ι) (s0 : ι) (hN : ∀ k, (Hp (sim L pick s0 k).st).length = N) (hcl : Closed (Hp s0) → ∀ k, Closed (Hp (sim L pick s0 k).st))
    (hj : ∀ k, cellsOf (Hp (sim L pick s0 k).st) j = some (encJob.row L)) (hl : L.length ≤ 1000)
    (hp : ∀ k, k < 120 → ∀ (τ : List AB) (m : Nat), Mach (Hp (sim L pick s0 k).st ++ τ) m L (sim L pick s0 k).done k → ∀ K : AV → List AB → Prop, K (.i .i64 (pick (sim L pick s0 k).st k (sim L pick s0 k).done).1) (Hp (sim L pick s0 (k + 1)).st ++ τ) → CallWp Try.prog f (pAV first ++ [.p m 0] ++ pAV caps) (Hp (sim L pick s0 k).st ++ τ) K)
    (hr : ∀ st now done, -1 ≤ (pick st now done).1 ∧ (pick st now done).1 < L.length)
    {K : AV → List AB → Prop} (hk : ∀ c1 c2, K (.agg [.sl N 0 120 c1, .sl (N + 1) 0 L.length c2]) (Hp (sim L pick s0 120).st ++ [.rw ty_int (encInt.row (sim L pick s0 120).run) c1, .rw ty_int (encInt.row (sim L pick s0 120).fin) c2])) :
    CallWp Try.prog n_impl_simulate [.sl j 0 L.length c, .fn f first caps] (Hp s0) K := by
  refine callC_impl_simulate (by simp) fun hC hA => ?_
  have hcl' := hcl hC
  have hj0 := hj 0
  change cellsOf (Hp s0) j = some (encJob.row L) at hj0
  have hN0 := hN 0
  change (Hp s0).length = N at hN0
  simp only [c_impl_simulate, not_true_eq_false, not_false_eq_true, decide_true, decide_false, Bool.not_true, Bool.not_false, false_implies, true_implies, and_true, true_and, Bool.false_eq_true, Bool.true_eq_false, implies_true, Bool.not_not, Classical.not_not, go_sem, Int.reduceToNat, List.take_nil, Nat.zero_mul, Nat.reduceEqDiff, Nat.reduceAdd, Nat.reduceLT, Nat.reduceLeDiff, Nat.reduceMul, ↓reduceIte, reduceCtorEq]
  have hjn := cells_lt hj0
  refine impl_newMachine_ (by omega) ?_
  simp only [List.append_assoc, at_new, at_new0, set_new, set_new0, not_true_eq_false, not_false_eq_true, decide_true, decide_false, Bool.not_true, Bool.not_false, false_implies, true_implies, and_true, true_and, Bool.false_eq_true, Bool.true_eq_false, implies_true, Bool.not_not, Classical.not_not, go_sem, Int.reduceToNat, List.take_nil, Nat.zero_mul, Nat.reduceEqDiff, Nat.reduceAdd, Nat.reduceLT, Nat.reduceLeDiff, Nat.reduceMul, ↓reduceIte, reduceCtorEq]
  refine impl_none_ 120 (by omega) fun c1 => ?_
  simp only [List.append_assoc, at_new, at_new0, set_new, set_new0, not_true_eq_false, not_false_eq_true, decide_true, decide_false, Bool.not_true, Bool.not_false, false_implies, true_implies, and_true, true_and, Bool.false_eq_true, Bool.true_eq_false, implies_true, Bool.not_not, Classical.not_not, go_sem, Int.reduceToNat, List.take_nil, Nat.zero_mul, Nat.reduceEqDiff, Nat.reduceAdd, Nat.reduceLT, Nat.reduceLeDiff, Nat.reduceMul, ↓reduceIte, reduceCtorEq]
  refine impl_none_ L.length (by omega) fun c2 => ?_
  simp only [List.append_assoc, at_new, at_new0, set_new, set_new0, not_true_eq_false, not_false_eq_true, decide_true, decide_false, Bool.not_true, Bool.not_false, false_implies, true_implies, and_true, true_and, Bool.false_eq_true, Bool.true_eq_false, implies_true, Bool.not_not, Classical.not_not, go_sem, Int.reduceToNat, List.take_nil, Nat.zero_mul, Nat.reduceEqDiff, Nat.reduceAdd, Nat.reduceLT, Nat.reduceLeDiff, Nat.reduceMul, ↓reduceIte, reduceCtorEq]
  rw [hN0]
  have hlens := fun n => sim_lens (L := L) (pick := pick) (s0 := s0) n
  have hdone := sim_done (L := L) (pick := pick) (s0 := s0) (fun st now done => (hr st now done).2)
  refine loop_count 120 (fun k => ⟨[(0, .sl j 0 L.length c), (1, .fn f first caps), (4, .p N 0), (5, .p (N + 2) 0), (6, .p (N + 5) 0)],
    Hp (sim L pick s0 k).st ++ [.rw ty_impl_Schedule [.sn, .sn] 2, .rw ty_int (encInt.row (sim L pick s0 k).done) L.length, .rw ty_impl_machine [.sl j 0 L.length c, .sl (N + 1) 0 L.length L.length, .i .i64 k] 3, .rw ty_int (encInt.row (runRow (sim L pick s0 k).run k)) c1, .rw ty_int (encInt.row (sim L pick s0 k).fin) c2,
      .rw ty_impl_Schedule [.sl (N + 3) 0 120 c1, .sl (N + 4) 0 L.length c2] 2]⟩) (fun _ => True) trivial (Wk.keep (by simp [look_cons])) fun k hkl _ => ?_
  have hlk := hlens k
  have hdk := hdone k
  have hpk := hp k
  have hstep : sim L pick s0 (k + 1) = tick L pick k (sim L pick s0 k) := rfl
  have hst := hr (sim L pick s0 k).st k (sim L pick s0 k).done
  have hjk := hj k
  have hjk' := hj (k + 1)
  have hNk := hN k
  have hNk' := hN (k + 1)
  have hclk := hcl' k
  clear hp hN hj hcl hcl' hlens hdone hC hA hj0 hjn hN0
  generalize hs : sim L pick s0 k = s at *
  generalize hs' : sim L pick s0 (k + 1) = s' at *
  obtain ⟨l1, l2, l3⟩ := hlk
  generalize hσ : Hp s.st = σ at *
  generalize hσ' : Hp s'.st = σ' at *
  subst hNk
  simp only [l0_impl_simulate, List.append_assoc, at_new, at_new0, set_new, set_new0, not_true_eq_false, not_false_eq_true, decide_true, decide_false, Bool.not_true, Bool.not_false, false_implies, true_implies, and_true, true_and, Bool.false_eq_true, Bool.true_eq_false, implies_true, Bool.not_not, Classical.not_not, go_sem, Int.reduceToNat, List.take_nil, Nat.zero_mul, Nat.reduceEqDiff, Nat.reduceAdd, Nat.reduceLT, Nat.reduceLeDiff, Nat.reduceMul, ↓reduceIte, reduceCtorEq]
  refine ⟨fun hlt => ?_, fun hge => ?_⟩
  · have hm : Mach (σ ++ [.rw ty_impl_Schedule [.sn, .sn] 2, .rw ty_int (encInt.row s.done) L.length, .rw ty_impl_machine [.sl j 0 L.length c, .sl (σ.length + 1) 0 L.length L.length, .i .i64 k] 3, .rw ty_int (encInt.row (runRow s.run k)) c1, .rw ty_int (encInt.row s.fin) c2,
      .rw ty_impl_Schedule [.sl (σ.length + 3) 0 120 c1, .sl (σ.length + 4) 0 L.length c2] 2]) (σ.length + 2) L s.done k :=
      ⟨⟨j, c, σ.length + 1, L.length, by simp [cellsOf, at_new], cells_old hjk _, by simp [cellsOf, at_new]⟩, l1⟩
    have hgo := hpk (by omega) _ _ hm
    simp only [List.append_assoc, List.singleton_append, List.cons_append, List.nil_append] at hgo
    refine hgo _ ?_
    clear hgo hpk hm hclk hjk
    rw [← hNk']
    generalize hi : (pick s.st k s.done).1 = i at *
    have hrl := runRow_length l3 hkl
    have hkr : k < (runRow s.run k).length := by omega
    simp only [List.append_assoc, at_new, at_new0, set_new, set_new0, lenI, hrl, splI hkr, runRow_set l3 (show k < 120 by omega), not_true_eq_false, not_false_eq_true, decide_true, decide_false, Bool.not_true, Bool.not_false, false_implies, true_implies, and_true, true_and, Bool.false_eq_true, Bool.true_eq_false, implies_true, Bool.not_not, Classical.not_not, go_sem, Int.reduceToNat, List.take_nil, Nat.zero_mul, Nat.reduceEqDiff, Nat.reduceAdd, Nat.reduceLT, Nat.reduceLeDiff, Nat.reduceMul, ↓reduceIte, reduceCtorEq]
    refine ⟨by omega, by omega, fun hneg => ?_, fun hneg => ?_⟩
    · refine ⟨by omega, by omega, ?_⟩
      simp only [tick, hi, hneg, if_true] at hstep
      subst hstep
      rw [show ((k + 1 : Nat) : Int) = (k : Int) + 1 from by omega]
      exact Wk.keep (by simp [look_cons])
    · obtain ⟨n, rfl⟩ := Int.eq_ofNat_of_zero_le (show 0 ≤ i by omega)
      have hnL : n < L.length := by omega
      have hnd : n < s.done.length := by omega
      have hnf : n < s.fin.length := by omega
      have hdn := hdk n hnL
      have gd : gI s.done n = s.done[n] := by simp [gI, List.getD_eq_getElem?_getD, hnd]
      rw [gd] at hdn
      have gL : L.getD n default = L[n] := by simp [List.getD_eq_getElem?_getD, hnL]
      simp only [tick, hi, hneg, if_false, Int.toNat_natCast, gd, gL] at hstep
      have hns : n < (s.done.set n (s.done[n] + 1)).length := by rw [List.length_set]; exact hnd
      have gs : (s.done.set n (s.done[n] + 1))[n] = s.done[n] + 1 := List.getElem_set_self ..
      simp only [List.append_assoc, at_new, at_new0, set_new, set_new0, Int.toNat_natCast, onC_old hjk', lenI, lenJ, l1, l2, rdI hnd, splI hnd, rdI hns, gs, splI hnf, rdJ3 hnL, List.length_set, not_true_eq_false, not_false_eq_true, decide_true, decide_false, Bool.not_true, Bool.not_false, false_implies, true_implies, and_true, true_and, Bool.false_eq_true, Bool.true_eq_false, implies_true, Bool.not_not, Classical.not_not, go_sem, Int.reduceToNat, List.take_nil, Nat.zero_mul, Nat.reduceEqDiff, Nat.reduceAdd, Nat.reduceLT, Nat.reduceLeDiff, Nat.reduceMul, ↓reduceIte, reduceCtorEq]
      subst hstep
      rw [show ((k + 1 : Nat) : Int) = (k : Int) + 1 from by omega]
      repeat refine ⟨by omega, ?_⟩
      refine ⟨fun he => ?_, fun he => ?_⟩
      · simp only [he, if_true]
        repeat refine ⟨by omega, ?_⟩
        exact Wk.keep (by simp [look_cons])
      · simp only [he, if_false]
        repeat refine ⟨by omega, ?_⟩
        exact Wk.keep (by simp [look_cons])
  · have e : k = 120 := by omega
    subst e
    rw [runRow_all]
    have := hk c1 c2
    rw [hs, hσ] at this
    exact Fin.pickG hclk (Nat.le_refl _) [3, 4] (.agg [.sl σ.length 0 120 c1, .sl (σ.length + 1) 0 L.length c2]) _ this (hf := by simp [Go.Abs.cellsIn, Enc.row_bel])
end Go.Proofs.Ytnlciginmeebhaa
