import Derived.Test.YtmphblbpofnpaaaE1
namespace Go.Proofs.Ytmphblbpofnpaaa
open Go.Abs Go.Ds
set_option linter.unusedSimpArgs false
set_option linter.unusedVariables false
set_option maxRecDepth 20000
section
variable {f : Nat} {first caps : List (Nat × Nat)} {σ : List AB} {v : AV} {L : List Job} {K : AV → List AB → Prop}
theorem slices_IndexFunc_impl_Job_ (hs : L.length ≤ 1099511627776) (h : Rd encJob σ v L) (p : Job → Bool) (hp : ∀ t ∈ L, ∀ K : AV → List AB → Prop, K (.b (p t)) σ → CallWp Try.prog f (pAV first ++ [.agg (encJob.f t)] ++ pAV caps) σ K)
    (hk : K (.i .i64 (idxF p L)) σ) : CallWp Try.prog n_slices_IndexFunc_impl_Job [v, .fn f first caps] σ K := by
  refine call_slices_IndexFunc_impl_Job (by simp) ?_
  rcases h with ⟨n, o, cap, cs, rfl, hn, hc, hle, hw⟩ | ⟨rfl, rfl, h0⟩
  · simp only [c_slices_IndexFunc_impl_Job, go_sem, Int.reduceToNat, List.take_nil, Nat.zero_mul, Nat.reduceEqDiff, Nat.reduceAdd, Nat.reduceLT, Nat.reduceLeDiff, Nat.reduceMul, ↓reduceIte, reduceCtorEq]
    refine loop_count L.length (fun k => ⟨[(0, .sl n o L.length cap), (1, .fn f first caps), (7, .i .i64 L.length), (8, .i .i64 k)], σ⟩) (fun k => ∀ x ∈ L.take k, p x = false) (by simp) (Wk.keep (by simp [look_cons])) fun k hkl hJ => ?_
    simp only [l0_slices_IndexFunc_impl_Job, go_sem, Int.reduceToNat, List.take_nil, Nat.zero_mul, Nat.reduceEqDiff, Nat.reduceAdd, Nat.reduceLT, Nat.reduceLeDiff, Nat.reduceMul, ↓reduceIte, reduceCtorEq]
    refine ⟨fun h => ⟨by omega, ?_⟩, fun h => ?_⟩
    · obtain ⟨h1, h2⟩ := win_at hle hw k h
      simp only [encJob] at h1 h2
      rw [onC_of hc]
      refine ⟨h1, ?_⟩
      rw [h2]
      refine hp _ (List.getElem_mem _) _ ?_
      simp only [go_sem, Int.reduceToNat, List.take_nil, Nat.zero_mul, Nat.reduceEqDiff, Nat.reduceAdd, Nat.reduceLT, Nat.reduceLeDiff, Nat.reduceMul, ↓reduceIte, reduceCtorEq]
      refine bc_of (fun h3 => Fin.plain ?_) fun h3 => ⟨by omega, ⟨h, (all_take_succ h).2 ⟨hJ, h3⟩⟩, Wk.keep (by simp [look_cons])⟩
      rw [← idxF_found h hJ h3]; exact hk
    · have e : k = L.length := by omega
      subst e
      rw [List.take_length] at hJ
      refine Fin.plain ?_
      rw [← idxF_none hJ]; exact hk
  · simp only [c_slices_IndexFunc_impl_Job, go_sem, Int.reduceToNat, List.take_nil, Nat.zero_mul, Nat.reduceEqDiff, Nat.reduceAdd, Nat.reduceLT, Nat.reduceLeDiff, Nat.reduceMul, ↓reduceIte, reduceCtorEq]
    refine loop_count 0 (fun k => ⟨[(0, .sn), (1, .fn f first caps), (7, .i .i64 0), (8, .i .i64 k)], σ⟩) (fun k => k = 0) rfl (Wk.keep (by simp [look_cons])) fun k hkl hJ => ?_
    subst hJ
    simp only [l0_slices_IndexFunc_impl_Job, go_sem, Int.reduceToNat, List.take_nil, Nat.zero_mul, Nat.reduceEqDiff, Nat.reduceAdd, Nat.reduceLT, Nat.reduceLeDiff, Nat.reduceMul, ↓reduceIte, reduceCtorEq]
    refine ⟨fun h => ?_, fun h => Fin.plain ?_⟩
    · exact absurd h (by simp)
    · rw [← idxF_none (p := p) (L := []) (by simp)]; exact hk
theorem slices_ContainsFunc_impl_Job_ (hs : L.length ≤ 1099511627776) (h : Rd encJob σ v L) (p : Job → Bool) (hp : ∀ t ∈ L, ∀ K : AV → List AB → Prop, K (.b (p t)) σ → CallWp Try.prog f (pAV first ++ [.agg (encJob.f t)] ++ pAV caps) σ K)
    (hk : K (.b (decide (∃ x ∈ L, p x = true))) σ) : CallWp Try.prog n_slices_ContainsFunc_impl_Job [v, .fn f first caps] σ K := by
  refine call_slices_ContainsFunc_impl_Job (by simp) ?_
  simp only [c_slices_ContainsFunc_impl_Job, h.data, go_sem, Int.reduceToNat, List.take_nil, Nat.zero_mul, Nat.reduceEqDiff, Nat.reduceAdd, Nat.reduceLT, Nat.reduceLeDiff, Nat.reduceMul, ↓reduceIte, reduceCtorEq]
  refine slices_IndexFunc_impl_Job_ hs h p hp ?_
  simp only [go_sem, Int.reduceToNat, List.take_nil, Nat.zero_mul, Nat.reduceEqDiff, Nat.reduceAdd, Nat.reduceLT, Nat.reduceLeDiff, Nat.reduceMul, ↓reduceIte, reduceCtorEq]
  refine Fin.plain ?_
  rw [decide_eq_decide.2 idxF_any]; exact hk
end
end Go.Proofs.Ytmphblbpofnpaaa
