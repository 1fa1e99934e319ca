import Derived.Test.YtmphblbpofnpaaaV1
namespace Go.Proofs.Ytmphblbpofnpaaa
open Go.Abs Go.Ds
set_option linter.unusedSimpArgs false
set_option linter.unusedVariables false
set_option maxRecDepth 20000
set_option maxHeartbeats 2000000
theorem laws_ticks0 (R : List Int) (x : Int) (hs : R.length ≤ 1099511627776) (c : Nat) : CallWp Try.prog n_laws_ticks [.sl 0 0 R.length c, .i .i64 x] [.ro (encInt.row R)] (fun v σ => v = .i .i64 (R.count x : Nat) ∧ σ = [.ro (encInt.row R)]) := by
  refine call_laws_ticks (by simp) ?_
  simp only [c_laws_ticks, go_sem, Int.reduceToNat, List.take_nil, Nat.zero_mul, Nat.reduceEqDiff, Nat.reduceAdd, Nat.reduceLT, Nat.reduceLeDiff, Nat.reduceMul, ↓reduceIte, reduceCtorEq]
  refine loop_count R.length (fun k => ⟨[(0, .sl 0 0 R.length c), (1, .i .i64 x), (5, .i .i64 ((R.take k).count x : Nat)), (6, .i .i64 k)], [.ro (encInt.row R)]⟩) (fun _ => True) trivial (Wk.keep (by simp [look_cons])) fun k hk _ => ?_
  simp only [l0_laws_ticks, go_sem, Int.reduceToNat, List.take_nil, Nat.zero_mul, Nat.reduceEqDiff, Nat.reduceAdd, Nat.reduceLT, Nat.reduceLeDiff, Nat.reduceMul, ↓reduceIte, reduceCtorEq]
  refine ⟨fun h => ?_, fun h => ?_⟩
  · have hc : (R.take k).count x ≤ k := by
      have := List.count_le_length (a := x) (l := R.take k)
      rw [List.length_take] at this; omega
    have e : (R.take (k + 1)).count x = (R.take k).count x + if R[k] = x then 1 else 0 := by
      rw [List.take_succ_eq_append_getElem h, List.count_append]
      simp [List.count_cons]
    simp only [rdI h, lenI, go_sem, Int.reduceToNat, List.take_nil, Nat.zero_mul, Nat.reduceEqDiff, Nat.reduceAdd, Nat.reduceLT, Nat.reduceLeDiff, Nat.reduceMul, ↓reduceIte, reduceCtorEq]
    refine ⟨by omega, by omega, fun h1 => ⟨by omega, by omega, h, ?_⟩, fun h1 => ⟨by omega, h, ?_⟩⟩
    · rw [e, if_pos h1]; exact Wk.keep (by simp [look_cons])
    · rw [e, if_neg h1]; exact Wk.keep (by simp [look_cons])
  · have ek : k = R.length := by omega
    subst ek
    rw [List.take_length]
    exact Fin.plain ⟨rfl, rfl⟩
theorem laws_ticks_ {R : List Int} (x : Int) (hs : R.length ≤ 1099511627776) {v : AV} {σ : List AB} (h : Rd encInt σ v R) {K : AV → List AB → Prop} (hk : K (.i .i64 (R.count x : Nat)) σ) : CallWp Try.prog n_laws_ticks [v, .i .i64 x] σ K :=
  call_rds _ (rds1 h.r) (fun c => [.sl 0 0 R.length (c 0), .i .i64 x]) (fun c => laws_ticks0 R x hs (c 0)) (fun ν c h => ⟨h.1, .inl rfl, trivial⟩) (fun _ => rfl) rfl hk
end Go.Proofs.Ytmphblbpofnpaaa
