import Derived.Test.YtmphblbpofnpaaaE1
import Derived.Test.YtmphblbpofnpaaaC2
namespace Go.Proofs.Ytmphblbpofnpaaa
open Go.Abs Go.Ds
set_option linter.unusedSimpArgs false
set_option linter.unusedVariables false
theorem laws_toJob_ (t : Job) {σ : List AB} {K : AV → List AB → Prop} (hk : K (.agg (encJob.f t)) σ) : CallWp Try.prog n_laws_toJob [.agg (encJob.f t)] σ K := by
  refine call0 (r := .agg (encJob.f t)) ?_ rfl rfl hk
  refine call_laws_toJob (by simp) ?_
  simp only [c_laws_toJob, encJob, go_sem, Int.reduceToNat, List.take_nil, Nat.zero_mul, Nat.reduceEqDiff, Nat.reduceAdd, Nat.reduceLT, Nat.reduceLeDiff, Nat.reduceMul, ↓reduceIte, reduceCtorEq]
  exact Fin.same rfl
theorem laws_toJobS0 (L : List Job) (hs : L.length ≤ 1099511627776) (c : Nat) : CallWp Try.prog n_laws_toJobS [.sl 0 0 L.length c] [.ro (encJob.row L)] (fun x σ => ∃ cap, x = .sl 1 0 L.length cap ∧ σ = [.ro (encJob.row L)] ++ [.rw ty_impl_Job (encJob.row L) (cap * 4)]) := by
  refine call_laws_toJobS (by simp) ?_
  simp only [c_laws_toJobS, go_sem, Int.reduceToNat, List.take_nil, Nat.zero_mul, Nat.reduceEqDiff, Nat.reduceAdd, Nat.reduceLT, Nat.reduceLeDiff, Nat.reduceMul, ↓reduceIte, reduceCtorEq]
  refine ⟨by omega, ?_⟩
  rw [show rep L.length [AV.i .i64 0, .i .i64 0, .i .i64 0, .i .i64 0] = encJob.row (filled L ⟨0, 0, 0, 0⟩ 0) from by rw [filled_zero]; exact encJob.rep ⟨0, 0, 0, 0⟩ _]
  refine loop_count L.length (fun k => ⟨[(0, .sl 0 0 L.length c), (3, .sl 1 0 L.length L.length), (4, .i .i64 k)], [.ro (encJob.row L), .rw ty_impl_Job (encJob.row (filled L ⟨0, 0, 0, 0⟩ k)) (L.length * 4)]⟩) (fun k => True) trivial (Wk.pick [0, 1]) fun k hk _ => ?_
  simp only [l0_laws_toJobS, go_sem, Int.reduceToNat, List.take_nil, Nat.zero_mul, Nat.reduceEqDiff, Nat.reduceAdd, Nat.reduceLT, Nat.reduceLeDiff, Nat.reduceMul, ↓reduceIte, reduceCtorEq, lenJ, rdJ0, rdJ1, rdJ2, rdJ3, winJ, takeJ, appJ, lenI, rdI, takeI, appI, winI, splI]
  refine ⟨fun h => ?_, fun h => ?_⟩
  · simp only [go_sem, Int.reduceToNat, List.take_nil, Nat.zero_mul, Nat.reduceEqDiff, Nat.reduceAdd, Nat.reduceLT, Nat.reduceLeDiff, Nat.reduceMul, ↓reduceIte, reduceCtorEq, lenJ, rdJ0, rdJ1, rdJ2, rdJ3, winJ, takeJ, appJ, lenI, rdI, takeI, appI, winI, splI, h]
    refine ⟨by omega, laws_toJob_ _ ?_⟩
    simp only [go_sem, Int.reduceToNat, List.take_nil, Nat.zero_mul, Nat.reduceEqDiff, Nat.reduceAdd, Nat.reduceLT, Nat.reduceLeDiff, Nat.reduceMul, ↓reduceIte, reduceCtorEq, lenJ, rdJ0, rdJ1, rdJ2, rdJ3, winJ, takeJ, appJ, lenI, rdI, takeI, appI, winI, splI, h, encJob.len]
    rw [filled_length _ _ _ hk, show spl (encJob.row (filled L ⟨0, 0, 0, 0⟩ k)) (k * 4) (encJob.f L[k]) = encJob.row (filled L ⟨0, 0, 0, 0⟩ (k + 1)) from by rw [← filled_set L _ k h]; exact encJob.set _ k (by rw [filled_length _ _ _ hk]; exact h) _]
    exact ⟨rfl, by omega, by omega, Wk.pick [0, 1]⟩
  · have e : k = L.length := by omega
    subst e
    refine Fin.plain ⟨L.length, rfl, ?_⟩
    rw [filled_all]
theorem laws_toJobS_ {L : List Job} (hs : L.length ≤ 1099511627776) {v : AV} {σ : List AB} (h : Rd encJob σ v L) {K : AV → List AB → Prop} (hk : ∀ cap, K (.sl σ.length 0 L.length cap) (σ ++ [.rw ty_impl_Job (encJob.row L) (cap * 4)])) : CallWp Try.prog n_laws_toJobS [v] σ K :=
  call_new _ (rds1 h.r) (fun c => [.sl 0 0 L.length (c 0)]) (fun c => laws_toJobS0 L hs (c 0)) (fun ν c h => ⟨h.1, trivial⟩) (fun _ => rfl) (encJob.row_flat L) hk
theorem laws_eqJob_ (t u : Job) {σ : List AB} {K : AV → List AB → Prop} (hk : K (.b (decide (t = u))) σ) : CallWp Try.prog n_laws_eqJob [.agg (encJob.f t), .agg (encJob.f u)] σ K := by
  refine call0 (r := .b (decide (t = u))) ?_ rfl rfl hk
  refine call_laws_eqJob (by simp) ?_
  simp only [c_laws_eqJob, encJob, go_sem, Int.reduceToNat, List.take_nil, Nat.zero_mul, Nat.reduceEqDiff, Nat.reduceAdd, Nat.reduceLT, Nat.reduceLeDiff, Nat.reduceMul, ↓reduceIte, reduceCtorEq]
  refine ⟨fun h1 => Fin.same ?_, fun h1 => ⟨fun h2 => Fin.same ?_, fun h2 => ⟨fun h3 => Fin.same ?_, fun h3 => ⟨fun h4 => Fin.same ?_, fun h4 => Fin.same ?_⟩⟩⟩⟩
  · congr 1; symm; apply decide_eq_false; rintro rfl; exact h1 rfl
  · congr 1; symm; apply decide_eq_false; rintro rfl; exact h2 rfl
  · congr 1; symm; apply decide_eq_false; rintro rfl; exact h3 rfl
  · congr 1; symm; apply decide_eq_false; rintro rfl; exact h4 rfl
  · congr 1; symm; apply decide_eq_true
    cases t; cases u; simp only at h1 h2 h3 h4; subst h1 h2 h3 h4; rfl
theorem laws_eqJobS0 (L M : List Job) (hs : L.length ≤ 1099511627776) (c c' : Nat) : CallWp Try.prog n_laws_eqJobS [.sl 0 0 L.length c, .sl 1 0 M.length c'] [.ro (encJob.row L), .ro (encJob.row M)] (fun x σ => x = .b (decide (L = M)) ∧ σ = [.ro (encJob.row L), .ro (encJob.row M)]) := by
  refine call_laws_eqJobS (by simp) ?_
  simp only [c_laws_eqJobS, go_sem, Int.reduceToNat, List.take_nil, Nat.zero_mul, Nat.reduceEqDiff, Nat.reduceAdd, Nat.reduceLT, Nat.reduceLeDiff, Nat.reduceMul, ↓reduceIte, reduceCtorEq]
  refine ⟨fun h => Fin.same ?_, fun hl => ?_⟩
  · congr 1; symm; apply decide_eq_false; rintro rfl; exact h rfl
  refine loop_count L.length (fun k => ⟨[(0, .sl 0 0 L.length c), (1, .sl 1 0 M.length c'), (5, .i .i64 k)], [.ro (encJob.row L), .ro (encJob.row M)]⟩) (fun k => L.take k = M.take k) (by simp) (Wk.pick [0, 1]) fun k hk hJ => ?_
  simp only [l0_laws_eqJobS, go_sem, Int.reduceToNat, List.take_nil, Nat.zero_mul, Nat.reduceEqDiff, Nat.reduceAdd, Nat.reduceLT, Nat.reduceLeDiff, Nat.reduceMul, ↓reduceIte, reduceCtorEq, lenJ, rdJ0, rdJ1, rdJ2, rdJ3, winJ, takeJ, appJ, lenI, rdI, takeI, appI, winI, splI]
  refine ⟨fun h => ?_, fun h => Fin.same ?_⟩
  · have h' : k < M.length := by omega
    simp only [go_sem, Int.reduceToNat, List.take_nil, Nat.zero_mul, Nat.reduceEqDiff, Nat.reduceAdd, Nat.reduceLT, Nat.reduceLeDiff, Nat.reduceMul, ↓reduceIte, reduceCtorEq, lenJ, rdJ0, rdJ1, rdJ2, rdJ3, winJ, takeJ, appJ, lenI, rdI, takeI, appI, winI, splI, h, h']
    refine ⟨by omega, by omega, onCall.by (laws_eqJob_ _ _ ⟨rfl, rfl⟩) ?_⟩
    simp only [go_sem, Int.reduceToNat, List.take_nil, Nat.zero_mul, Nat.reduceEqDiff, Nat.reduceAdd, Nat.reduceLT, Nat.reduceLeDiff, Nat.reduceMul, ↓reduceIte, reduceCtorEq]
    refine ⟨fun h1 => Fin.same ?_, fun h1 => ⟨by omega, ?_, Wk.pick [0, 1]⟩⟩
    · congr 1; symm; apply decide_eq_false; rintro rfl; exact h1 rfl
    · rw [List.take_succ_eq_append_getElem h, List.take_succ_eq_append_getElem h', hJ, h1]
  · congr 1; symm; apply decide_eq_true
    rw [List.take_of_length_le (by omega), List.take_of_length_le (by omega)] at hJ
    exact hJ
theorem laws_eqJobS_ {L M : List Job} (hs : L.length ≤ 1099511627776) {v u : AV} {σ : List AB} (h : Rd encJob σ v L) (h' : Rd encJob σ u M) {K : AV → List AB → Prop} (hk : K (.b (decide (L = M))) σ) : CallWp Try.prog n_laws_eqJobS [v, u] σ K :=
  call_rds _ (rds_cons h.r (rds1 h'.r)) (fun c => [.sl 0 0 L.length (c 0), .sl 1 0 M.length (c 1)]) (fun c => laws_eqJobS0 L M hs (c 0) (c 1)) (fun ν c h => ⟨h.1, h.2.1, trivial⟩) (fun _ => rfl) rfl hk
theorem laws_szJobS0 (L : List Job) (n : Int) (hs : L.length ≤ 4611686018427387904) (hn : 0 ≤ n ∧ n ≤ 1099511627776) (c : Nat) : CallWp Try.prog n_laws_szJobS [.sl 0 0 L.length c, .i .i64 n] [.ro (encJob.row L)] (fun x σ => x = .i .i64 (if n < L.length then -1 else n - L.length) ∧ σ = [.ro (encJob.row L)]) := by
  refine call_laws_szJobS (by simp) ?_
  simp only [c_laws_szJobS, go_sem, Int.reduceToNat, List.take_nil, Nat.zero_mul, Nat.reduceEqDiff, Nat.reduceAdd, Nat.reduceLT, Nat.reduceLeDiff, Nat.reduceMul, ↓reduceIte, reduceCtorEq]
  refine ⟨by omega, fun h => Fin.same ?_, fun h => Fin.same ?_⟩
  · rw [if_pos (by omega)]
  · rw [if_neg (by omega)]
theorem laws_szJobS_ {L : List Job} {n : Int} (hs : L.length ≤ 4611686018427387904) (hn : 0 ≤ n ∧ n ≤ 1099511627776) {v : AV} {σ : List AB} (h : Rd encJob σ v L) {K : AV → List AB → Prop} (hk : K (.i .i64 (if n < L.length then -1 else n - L.length)) σ) : CallWp Try.prog n_laws_szJobS [v, .i .i64 n] σ K :=
  call_rds _ (rds1 h.r) (fun c => [.sl 0 0 L.length (c 0), .i .i64 n]) (fun c => laws_szJobS0 L n hs hn (c 0)) (fun ν c h => ⟨h.1, .inl rfl, trivial⟩) (fun _ => rfl) rfl hk
end Go.Proofs.Ytmphblbpofnpaaa
