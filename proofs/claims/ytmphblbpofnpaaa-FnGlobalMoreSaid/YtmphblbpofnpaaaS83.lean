import Derived.Test.YtmphblbpofnpaaaS82
import Derived.Test.YtmphblbpofnpaaaS14
import Derived.Test.YtmphblbpofnpaaaM45
namespace Go.Proofs.Ytmphblbpofnpaaa
open Go.Abs Go.Ds
set_option linter.unusedSimpArgs false
set_option linter.unusedVariables false
set_option maxRecDepth 20000
set_option maxHeartbeats 2000000
noncomputable instance (S : List Task) (m : Int) : Decidable (densOk S m) := Classical.propDecidable _
theorem densG_bd {S : List Task} (hS : setOk S) {k : Nat} (hk : k < S.length) : 0 ≤ densG S k ∧ densG S k ≤ 27720 := by
  have ht := gT_ok hS (show 0 ≤ (k : Int) by omega) (by omega)
  unfold Task.ok at ht
  have hd := div_fit (D := (gT S k).D) (by omega)
  have hq := Int.mul_le_mul_of_nonneg_left ht.2.2.1 hd.2
  rw [hd.1] at hq
  exact ⟨Int.mul_nonneg hd.2 (by omega), hq⟩
theorem densUp_bd {S : List Task} (hS : setOk S) : ∀ {n : Nat}, n ≤ S.length → 0 ≤ sumI (fun k => densG S k) n ∧ sumI (fun k => densG S k) n ≤ 27720 * n
  | 0, _ => ⟨Int.le_refl _, Int.le_refl _⟩
  | n + 1, h => by
    have ih := densUp_bd hS (n := n) (by omega)
    have := densG_bd hS (k := n) (by omega)
    simp only [sumI]
    omega
theorem impl_DensityFeasible0 (S : List Task) (hs : S.length ≤ 1048576) (m : Int) (c : Nat) : CallWp Try.prog n_impl_DensityFeasible [.sl 0 0 S.length c, .i .i64 m] [.ro (encTask.row S)] (fun x σ => x = .b (decide (setOk S ∧ (1 ≤ m ∧ m ≤ 5) ∧ densOk S m)) ∧ σ = [.ro (encTask.row S)]) := by
  refine call_impl_DensityFeasible (by simp) ?_
  simp only [c_impl_DensityFeasible, not_true_eq_false, not_false_eq_true, decide_true, decide_false, Bool.not_true, Bool.not_false, false_implies, true_implies, and_true, true_and, Bool.false_eq_true, Bool.true_eq_false, implies_true, Bool.not_not, Classical.not_not, go_sem, Int.reduceToNat, List.take_nil, Nat.zero_mul, Nat.reduceEqDiff, Nat.reduceAdd, Nat.reduceLT, Nat.reduceLeDiff, Nat.reduceMul, ↓reduceIte, reduceCtorEq]
  refine impl_SetValid_ (L := S) (by omega) (Rd.own rfl) ?_
  simp only [not_true_eq_false, not_false_eq_true, decide_true, decide_false, Bool.not_true, Bool.not_false, false_implies, true_implies, and_true, true_and, Bool.false_eq_true, Bool.true_eq_false, implies_true, Bool.not_not, Classical.not_not, go_sem, Int.reduceToNat, List.take_nil, Nat.zero_mul, Nat.reduceEqDiff, Nat.reduceAdd, Nat.reduceLT, Nat.reduceLeDiff, Nat.reduceMul, ↓reduceIte, reduceCtorEq]
  have no : ¬ (setOk S ∧ (1 ≤ m ∧ m ≤ 5) ∧ densOk S m) → Abs.Fin 1 [.ro (encTask.row S)] (.b false) (fun x σ => x = .b (decide (setOk S ∧ (1 ≤ m ∧ m ≤ 5) ∧ densOk S m)) ∧ σ = [.ro (encTask.row S)]) := fun h => Fin.plain ⟨by rw [decide_eq_false h], rfl⟩
  refine ⟨fun hS => ?_, fun hS => no fun h => hS h.1⟩
  refine impl_isCoresG_ m ?_
  simp only [not_true_eq_false, not_false_eq_true, decide_true, decide_false, Bool.not_true, Bool.not_false, false_implies, true_implies, and_true, true_and, Bool.false_eq_true, Bool.true_eq_false, implies_true, Bool.not_not, Classical.not_not, go_sem, Int.reduceToNat, List.take_nil, Nat.zero_mul, Nat.reduceEqDiff, Nat.reduceAdd, Nat.reduceLT, Nat.reduceLeDiff, Nat.reduceMul, ↓reduceIte, reduceCtorEq]
  refine ⟨fun h2 => no fun h => h2 h.2.1, fun h2 => ?_⟩
  have h5 : S.length ≤ 5 := hS.1
  refine loop_count S.length (fun k => ⟨[(1, .i .i64 m), (5, .i .i64 (sumI (fun k => densG S k) k)), (6, .i .i64 (densMax S k)), (18, .sl 0 0 S.length c), (19, .i .i64 S.length), (20, .i .i64 k)], [.ro (encTask.row S)]⟩) (fun _ => True) trivial (Wk.keep (by simp [look_cons, sumI, densMax])) fun k hk _ => ?_
  simp only [l0_impl_DensityFeasible, not_true_eq_false, not_false_eq_true, decide_true, decide_false, Bool.not_true, Bool.not_false, false_implies, true_implies, and_true, true_and, Bool.false_eq_true, Bool.true_eq_false, implies_true, Bool.not_not, Classical.not_not, go_sem, Int.reduceToNat, List.take_nil, Nat.zero_mul, Nat.reduceEqDiff, Nat.reduceAdd, Nat.reduceLT, Nat.reduceLeDiff, Nat.reduceMul, ↓reduceIte, reduceCtorEq]
  refine ⟨fun hlt => ?_, fun hge => ?_⟩
  · have hb := densG_bd hS hlt
    have hu := densUp_bd hS hk
    have ht := gT_ok hS (show 0 ≤ (k : Int) by omega) (by omega)
    have eT := gT_nat hlt
    rw [eT] at ht
    unfold Task.ok at ht
    have eD : densG S k = Int.tdiv 27720 S[k].D * S[k].C := by
      unfold densG densT
      rw [eT, Int.tdiv_eq_ediv_of_nonneg (by decide)]
    have hd := div_fit (D := S[k].D) (by omega)
    have hd2 : Int.tdiv 27720 S[k].D = 27720 / S[k].D := Int.tdiv_eq_ediv_of_nonneg (by decide)
    have hd3 : 27720 / S[k].D ≤ 27720 := Int.ediv_le_self _ (by decide)
    have hsu : sumI (fun k => densG S k) (k + 1) = sumI (fun k => densG S k) k + densG S k := rfl
    have hmu : densMax S (k + 1) = if densMax S k < densG S k then densG S k else densMax S k := rfl
    have eW : win (encTask.row S) (k * 3) 3 = [.i .i64 S[k].C, .i .i64 S[k].D, .i .i64 S[k].P] := by rw [winT hlt]; rfl
    simp only [eW, lenT, ← eD, not_true_eq_false, not_false_eq_true, decide_true, decide_false, Bool.not_true, Bool.not_false, false_implies, true_implies, and_true, true_and, Bool.false_eq_true, Bool.true_eq_false, implies_true, Bool.not_not, Classical.not_not, go_sem, Int.reduceToNat, List.take_nil, Nat.zero_mul, Nat.reduceEqDiff, Nat.reduceAdd, Nat.reduceLT, Nat.reduceLeDiff, Nat.reduceMul, ↓reduceIte, reduceCtorEq]
    refine ⟨hlt, by omega, by omega, by omega, by omega, by omega, by omega, hlt, ?_⟩
    rw [← hsu, ← hmu]
    exact Wk.pick [0]
  · have e : k = S.length := by omega
    subst e
    have hu := densUp_bd hS (Nat.le_refl S.length)
    have hm0 := densMax_nn S S.length
    have hm1 := densMax_bd hS S.length (Nat.le_refl _)
    have hmm : 0 ≤ (m - 1) * densMax S S.length ∧ (m - 1) * densMax S S.length ≤ 4 * 27720 := by
      have c : m = 1 ∨ m = 2 ∨ m = 3 ∨ m = 4 ∨ m = 5 := by omega
      rcases c with rfl | rfl | rfl | rfl | rfl <;> omega
    refine ⟨by omega, by omega, by omega, by omega, Fin.plain ⟨?_, rfl⟩⟩
    congr 1
    rw [decide_eq_decide]
    exact ⟨fun h => ⟨hS, h2, h⟩, fun h => h.2.2⟩
theorem impl_DensityFeasible_ {S : List Task} (hs : S.length ≤ 1048576) {m : Int} {v : AV} {σ : List AB} (h : Rd encTask σ v S) {K : AV → List AB → Prop} (hk : K (.b (decide (setOk S ∧ (1 ≤ m ∧ m ≤ 5) ∧ densOk S m))) σ) : CallWp Try.prog n_impl_DensityFeasible [v, .i .i64 m] σ K :=
  call_rds _ (rds1 h.r) (fun c => [.sl 0 0 S.length (c 0), .i .i64 m]) (fun c => impl_DensityFeasible0 S hs m (c 0)) (fun ν c h => ⟨h.1, .inl rfl, trivial⟩) (fun _ => rfl) rfl hk
theorem impl_GlobalMissed_ {L : List Job} {F : List Int} {v u x : AV} {σ : List AB} {K : AV → List AB → Prop} (hl : L.length ≤ 1000000) (hf : F.length = L.length) (h : Rd encJob σ v L) (hx : x.data = true) (hx1 : x.cl = [x]) (h' : Rd encInt σ u F) (hn : missedL L F = []) (hk : ∀ τ, K .sn (σ ++ τ)) : CallWp Try.prog n_impl_GlobalMissed [v, .agg [x, u]] σ K := by
  refine call_impl_GlobalMissed (by simp) ?_
  simp only [c_impl_GlobalMissed, List.append_assoc, at_new, at_new0, set_new, set_new0, not_true_eq_false, not_false_eq_true, decide_true, decide_false, Bool.not_true, Bool.not_false, false_implies, true_implies, and_true, true_and, Bool.false_eq_true, Bool.true_eq_false, implies_true, Bool.not_not, Classical.not_not, go_sem, Int.reduceToNat, List.take_nil, Nat.zero_mul, Nat.reduceEqDiff, Nat.reduceAdd, Nat.reduceLT, Nat.reduceLeDiff, Nat.reduceMul, ↓reduceIte, reduceCtorEq]
  refine ⟨by rw [h.data, h'.data]; rfl, impl_missed_ (by omega) hf h.app h'.app (fun e => ?_) (fun e c => absurd hn e)⟩
  simp only [not_true_eq_false, not_false_eq_true, decide_true, decide_false, Bool.not_true, Bool.not_false, false_implies, true_implies, and_true, true_and, Bool.false_eq_true, Bool.true_eq_false, implies_true, Bool.not_not, Classical.not_not, go_sem, Int.reduceToNat, List.take_nil, Nat.zero_mul, Nat.reduceEqDiff, Nat.reduceAdd, Nat.reduceLT, Nat.reduceLeDiff, Nat.reduceMul, ↓reduceIte, reduceCtorEq]
  exact Fin.plain (hk _)
end Go.Proofs.Ytmphblbpofnpaaa
