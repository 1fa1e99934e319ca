import Derived.Test.YtmphblbpofnpaaaS2
namespace Go.Proofs.Ytmphblbpofnpaaa
open Go.Abs Go.Ds
set_option linter.unusedSimpArgs false
set_option linter.unusedVariables false
set_option maxRecDepth 20000
theorem impl_edf_ {σ : List AB} {m : Nat} {L : List Job} {done : List Int} {now : Nat} {K : AV → List AB → Prop} (h : Mach σ m L done now) (hs : L.length ≤ 1000000) (hk : K (.i .i64 (edfPick L now done)) σ) : CallWp Try.prog n_impl_edf [.p m 0] σ K := by
  refine call_impl_edf (by simp) ?_
  simp only [c_impl_edf, not_true_eq_false, not_false_eq_true, decide_true, decide_false, Bool.not_true, Bool.not_false, false_implies, true_implies, and_true, true_and, Bool.false_eq_true, Bool.true_eq_false, implies_true, Bool.not_not, Classical.not_not, go_sem, Int.reduceToNat, List.take_nil, Nat.zero_mul, Nat.reduceEqDiff, Nat.reduceAdd, Nat.reduceLT, Nat.reduceLeDiff, Nat.reduceMul, ↓reduceIte, reduceCtorEq]
  refine impl_machine_best_ h hs (fun i => (L.getD i default).D) (fun _ => true) (fun i hi τ K hk => impl_machine_deadline_ (h.app τ) i hi hk) (fun i hi _ τ K hk => impl_machine_any_ i hk) ?_
  simp only [Bool.and_true, not_true_eq_false, not_false_eq_true, decide_true, decide_false, Bool.not_true, Bool.not_false, false_implies, true_implies, and_true, true_and, Bool.false_eq_true, Bool.true_eq_false, implies_true, Bool.not_not, Classical.not_not, go_sem, Int.reduceToNat, List.take_nil, Nat.zero_mul, Nat.reduceEqDiff, Nat.reduceAdd, Nat.reduceLT, Nat.reduceLeDiff, Nat.reduceMul, ↓reduceIte, reduceCtorEq]
  exact Fin.plain hk
theorem impl_newMachine_ {σ : List AB} {j len c : Nat} {K : AV → List AB → Prop} (hl : len ≤ 1000000) (hk : K (.p (σ.length + 1) 0) (σ ++ [.rw ty_int (encInt.row (List.replicate len 0)) len, .rw ty_impl_machine [.sl j 0 len c, .sl σ.length 0 len len, .i .i64 0] 3])) : CallWp Try.prog n_impl_newMachine [.sl j 0 len c] σ K := by
  refine call_impl_newMachine (by simp) ?_
  simp only [c_impl_newMachine, List.append_assoc, not_true_eq_false, not_false_eq_true, decide_true, decide_false, Bool.not_true, Bool.not_false, false_implies, true_implies, and_true, true_and, Bool.false_eq_true, Bool.true_eq_false, implies_true, Bool.not_not, Classical.not_not, go_sem, Int.reduceToNat, List.take_nil, Nat.zero_mul, Nat.reduceEqDiff, Nat.reduceAdd, Nat.reduceLT, Nat.reduceLeDiff, Nat.reduceMul, ↓reduceIte, reduceCtorEq]
  rw [show rep len [AV.i .i64 0] = encInt.row (List.replicate len 0) from encInt.rep 0 _]
  exact ⟨by omega, Fin.plain hk⟩
def Picks (P : Program) (f : Nat) (first caps : List (Nat × Nat)) (σ : List AB) (L : List Job) (pick : Nat → List Int → Int) : Prop :=
  ∀ (τ : List AB) (m : Nat) (done : List Int) (now : Nat), now < 120 → Mach (σ ++ τ) m L done now → ∀ K : AV → List AB → Prop, K (.i .i64 (pick now done)) (σ ++ τ) → CallWp P f (pAV first ++ [.p m 0] ++ pAV caps) (σ ++ τ) K
theorem Picks.go {P : Program} {f : Nat} {first caps : List (Nat × Nat)} {σ : List AB} {L : List Job} {pick : Nat → List Int → Int} (h : Picks P f first caps σ L pick) {τ : List AB} {m : Nat} {done : List Int} {now : Nat} (hn : now < 120) (hm : Mach (σ ++ τ) m L done now)
    {K : AV → List AB → Prop} (hk : K (.i .i64 (pick now done)) (σ ++ τ)) : CallWp P f (pAV first ++ .p m 0 :: pAV caps) (σ ++ τ) K := by simpa using h τ m done now hn hm K hk
def runRow (r : List Int) (k : Nat) : List Int := r ++ List.replicate (120 - k) (-1)
theorem runRow_length {r : List Int} {k : Nat} (h : r.length = k) (hk : k ≤ 120) : (runRow r k).length = 120 := by simp [runRow]; omega
theorem runRow_set {r : List Int} {k : Nat} (h : r.length = k) (hk : k < 120) (i : Int) : (runRow r k).set k i = runRow (r ++ [i]) (k + 1) := by
  unfold runRow
  rw [List.set_append_right _ _ (by omega), h, Nat.sub_self, show 120 - k = (120 - (k + 1)) + 1 from by omega, List.replicate_succ, List.set_cons_zero, List.append_assoc]
  rfl
theorem runRow_all {r : List Int} : runRow r 120 = r := by simp [runRow]
theorem impl_simulate_ {σ : List AB} {j c : Nat} {f : Nat} {first caps : List (Nat × Nat)} {L : List Job} (pick : Nat → List Int → Int) (hj : cellsOf σ j = some (encJob.row L)) (hl : L.length ≤ 1000) (hp : Picks Try.prog f first caps σ L pick) (hr : ∀ now done, -1 ≤ pick now done ∧ pick now done < L.length)
    {K : AV → List AB → Prop} (hk : ∀ c1 c2, K (.agg [.sl σ.length 0 120 c1, .sl (σ.length + 1) 0 L.length c2]) (σ ++ [.rw ty_int (encInt.row (simU L pick 120).run) c1, .rw ty_int (encInt.row (simU L pick 120).fin) c2])) :
    CallWp Try.prog n_impl_simulate [.sl j 0 L.length c, .fn f first caps] σ K := by
  refine callC_impl_simulate (by simp) fun hC hA => ?_
  simp only [List.all_cons, List.all_nil, Bool.and_eq_true, Bool.and_true] at hA
  have hjn := cells_lt hj
  simp only [c_impl_simulate, not_true_eq_false, not_false_eq_true, decide_true, decide_false, Bool.not_true, Bool.not_false, false_implies, true_implies, and_true, true_and, Bool.false_eq_true, Bool.true_eq_false, implies_true, Bool.not_not, Classical.not_not, go_sem, Int.reduceToNat, List.take_nil, Nat.zero_mul, Nat.reduceEqDiff, Nat.reduceAdd, Nat.reduceLT, Nat.reduceLeDiff, Nat.reduceMul, ↓reduceIte, reduceCtorEq]
  refine impl_newMachine_ (by omega) ?_
  simp only [List.append_assoc, at_new, at_new0, set_new, set_new0, not_true_eq_false, not_false_eq_true, decide_true, decide_false, Bool.not_true, Bool.not_false, false_implies, true_implies, and_true, true_and, Bool.false_eq_true, Bool.true_eq_false, implies_true, Bool.not_not, Classical.not_not, go_sem, Int.reduceToNat, List.take_nil, Nat.zero_mul, Nat.reduceEqDiff, Nat.reduceAdd, Nat.reduceLT, Nat.reduceLeDiff, Nat.reduceMul, ↓reduceIte, reduceCtorEq]
  refine impl_none_ 120 (by omega) fun c1 => ?_
  simp only [List.append_assoc, at_new, at_new0, set_new, set_new0, not_true_eq_false, not_false_eq_true, decide_true, decide_false, Bool.not_true, Bool.not_false, false_implies, true_implies, and_true, true_and, Bool.false_eq_true, Bool.true_eq_false, implies_true, Bool.not_not, Classical.not_not, go_sem, Int.reduceToNat, List.take_nil, Nat.zero_mul, Nat.reduceEqDiff, Nat.reduceAdd, Nat.reduceLT, Nat.reduceLeDiff, Nat.reduceMul, ↓reduceIte, reduceCtorEq]
  refine impl_none_ L.length (by omega) fun c2 => ?_
  simp only [List.append_assoc, at_new, at_new0, set_new, set_new0, not_true_eq_false, not_false_eq_true, decide_true, decide_false, Bool.not_true, Bool.not_false, false_implies, true_implies, and_true, true_and, Bool.false_eq_true, Bool.true_eq_false, implies_true, Bool.not_not, Classical.not_not, go_sem, Int.reduceToNat, List.take_nil, Nat.zero_mul, Nat.reduceEqDiff, Nat.reduceAdd, Nat.reduceLT, Nat.reduceLeDiff, Nat.reduceMul, ↓reduceIte, reduceCtorEq]
  have hlens := fun n => sim_lens (L := L) (pick := fun _ now done => (pick now done, ())) (s0 := ()) n
  have hdone := sim_done (L := L) (pick := fun _ now done => (pick now done, ())) (s0 := ()) (fun _ now done => (hr now done).2)
  refine loop_count 120 (fun k => ⟨[(0, .sl j 0 L.length c), (1, .fn f first caps), (4, .p σ.length 0), (5, .p (σ.length + 2) 0), (6, .p (σ.length + 5) 0)],
    σ ++ [.rw ty_impl_Schedule [.sn, .sn] 2, .rw ty_int (encInt.row (simU L pick k).done) L.length, .rw ty_impl_machine [.sl j 0 L.length c, .sl (σ.length + 1) 0 L.length L.length, .i .i64 k] 3, .rw ty_int (encInt.row (runRow (simU L pick k).run k)) c1, .rw ty_int (encInt.row (simU L pick k).fin) c2,
      .rw ty_impl_Schedule [.sl (σ.length + 3) 0 120 c1, .sl (σ.length + 4) 0 L.length c2] 2]⟩) (fun _ => True) trivial (Wk.keep (by simp [look_cons])) fun k hkl _ => ?_
  have hlk := hlens k
  have hdk := hdone k
  change (simU L pick k).done.length = L.length ∧ (simU L pick k).fin.length = L.length ∧ (simU L pick k).run.length = k at hlk
  change ∀ (i : Nat), i < L.length → 0 ≤ gI (simU L pick k).done i ∧ gI (simU L pick k).done i ≤ k at hdk
  have hstep : simU L pick (k + 1) = tick L (fun _ now done => (pick now done, ())) k (simU L pick k) := rfl
  generalize hs : simU L pick k = s at hlk hdk hstep ⊢
  obtain ⟨l1, l2, l3⟩ := hlk
  simp only [l0_impl_simulate, List.append_assoc, at_new, at_new0, set_new, set_new0, not_true_eq_false, not_false_eq_true, decide_true, decide_false, Bool.not_true, Bool.not_false, false_implies, true_implies, and_true, true_and, Bool.false_eq_true, Bool.true_eq_false, implies_true, Bool.not_not, Classical.not_not, go_sem, Int.reduceToNat, List.take_nil, Nat.zero_mul, Nat.reduceEqDiff, Nat.reduceAdd, Nat.reduceLT, Nat.reduceLeDiff, Nat.reduceMul, ↓reduceIte, reduceCtorEq]
  refine ⟨fun hlt => ?_, fun hge => ?_⟩
  · have hm : Mach (σ ++ [.rw ty_impl_Schedule [.sn, .sn] 2, .rw ty_int (encInt.row s.done) L.length, .rw ty_impl_machine [.sl j 0 L.length c, .sl (σ.length + 1) 0 L.length L.length, .i .i64 k] 3, .rw ty_int (encInt.row (runRow s.run k)) c1, .rw ty_int (encInt.row s.fin) c2,
      .rw ty_impl_Schedule [.sl (σ.length + 3) 0 120 c1, .sl (σ.length + 4) 0 L.length c2] 2]) (σ.length + 2) L s.done k :=
      ⟨⟨j, c, σ.length + 1, L.length, by simp [cellsOf, at_new], cells_old hj _, by simp [cellsOf, at_new]⟩, l1⟩
    refine hp.go (by omega) hm ?_
    have hpk := hr k s.done
    generalize hi : pick k s.done = i at hpk
    have hrl := runRow_length l3 hkl
    have hkr : k < (runRow s.run k).length := by omega
    simp only [List.append_assoc, at_new, at_new0, set_new, set_new0, lenI, hrl, splI hkr, runRow_set l3 (show k < 120 by omega), not_true_eq_false, not_false_eq_true, decide_true, decide_false, Bool.not_true, Bool.not_false, false_implies, true_implies, and_true, true_and, Bool.false_eq_true, Bool.true_eq_false, implies_true, Bool.not_not, Classical.not_not, go_sem, Int.reduceToNat, List.take_nil, Nat.zero_mul, Nat.reduceEqDiff, Nat.reduceAdd, Nat.reduceLT, Nat.reduceLeDiff, Nat.reduceMul, ↓reduceIte, reduceCtorEq]
    refine ⟨by omega, by omega, fun hneg => ?_, fun hneg => ?_⟩
    · refine ⟨by omega, by omega, ?_⟩
      simp only [tick, hi, hneg, if_true] at hstep
      rw [hstep, show ((k + 1 : Nat) : Int) = (k : Int) + 1 from by omega]
      exact Wk.keep (by simp [look_cons])
    · obtain ⟨n, rfl⟩ := Int.eq_ofNat_of_zero_le (show 0 ≤ i by omega)
      have hnL : n < L.length := by omega
      have hnd : n < s.done.length := by omega
      have hnf : n < s.fin.length := by omega
      have hdn := hdk n hnL
      have gd : gI s.done n = s.done[n] := by simp [gI, List.getD_eq_getElem?_getD, hnd]
      rw [gd] at hdn
      have gL : L.getD n default = L[n] := by simp [List.getD_eq_getElem?_getD, hnL]
      simp only [tick, hi, hneg, if_false, Int.toNat_natCast, gd, gL] at hstep
      have hns : n < (s.done.set n (s.done[n] + 1)).length := by rw [List.length_set]; exact hnd
      have gs : (s.done.set n (s.done[n] + 1))[n] = s.done[n] + 1 := List.getElem_set_self ..
      simp only [List.append_assoc, at_new, at_new0, set_new, set_new0, Int.toNat_natCast, onC_old hj, lenI, lenJ, l1, l2, rdI hnd, splI hnd, rdI hns, gs, splI hnf, rdJ3 hnL, List.length_set, not_true_eq_false, not_false_eq_true, decide_true, decide_false, Bool.not_true, Bool.not_false, false_implies, true_implies, and_true, true_and, Bool.false_eq_true, Bool.true_eq_false, implies_true, Bool.not_not, Classical.not_not, go_sem, Int.reduceToNat, List.take_nil, Nat.zero_mul, Nat.reduceEqDiff, Nat.reduceAdd, Nat.reduceLT, Nat.reduceLeDiff, Nat.reduceMul, ↓reduceIte, reduceCtorEq]
      rw [hstep, show ((k + 1 : Nat) : Int) = (k : Int) + 1 from by omega]
      repeat refine ⟨by omega, ?_⟩
      refine ⟨fun he => ?_, fun he => ?_⟩
      · simp only [he, if_true]
        repeat refine ⟨by omega, ?_⟩
        exact Wk.keep (by simp [look_cons])
      · simp only [he, if_false]
        repeat refine ⟨by omega, ?_⟩
        exact Wk.keep (by simp [look_cons])
  · have e : k = 120 := by omega
    subst e
    rw [runRow_all]
    have := hk c1 c2
    rw [hs] at this
    exact Fin.pickG hC (Nat.le_refl _) [3, 4] (.agg [.sl σ.length 0 120 c1, .sl (σ.length + 1) 0 L.length c2]) _ this (hf := by simp [Go.Abs.cellsIn, Enc.row_bel])
end Go.Proofs.Ytmphblbpofnpaaa
