/- Contracts: the law's own helpers: copies, comparisons. -/
import Derived.Test.YtdmoafmgeipenaaC1
namespace Go.Proofs.Ytdmoafmgeipenaa
open Go.Abs Go.Ds
set_option linter.unusedSimpArgs false
set_option linter.unusedVariables false

theorem laws_toTask_ (t : Task) {σ : List AB} {K : AV → List AB → Prop} (hk : K (.agg (encTask.f t)) σ) : CallWp Try.prog n_laws_toTask [.agg (encTask.f t)] σ K := by
  refine call0 (r := .agg (encTask.f t)) ?_ rfl rfl hk
  refine call_laws_toTask (by simp) ?_
  simp only [c_laws_toTask, encTask, go_sem, Int.reduceToNat, List.take_nil, Nat.zero_mul, Nat.reduceEqDiff, Nat.reduceAdd, Nat.reduceLT, Nat.reduceLeDiff, Nat.reduceMul, ↓reduceIte, reduceCtorEq]
  exact Fin.same rfl

theorem laws_toTaskS0 (L : List Task) (hs : L.length ≤ 1099511627776) (c : Nat) : CallWp Try.prog n_laws_toTaskS [.sl 0 0 L.length c] [.ro (encTask.row L)] (fun x σ => ∃ cap, x = .sl 1 0 L.length cap ∧ σ = [.ro (encTask.row L)] ++ [.rw ty_impl_Task (encTask.row L) (cap * 3)]) := by
  refine call_laws_toTaskS (by simp) ?_
  simp only [c_laws_toTaskS, go_sem, Int.reduceToNat, List.take_nil, Nat.zero_mul, Nat.reduceEqDiff, Nat.reduceAdd, Nat.reduceLT, Nat.reduceLeDiff, Nat.reduceMul, ↓reduceIte, reduceCtorEq]
  refine ⟨by omega, ?_⟩
  rw [show rep L.length [AV.i .i64 0, .i .i64 0, .i .i64 0] = encTask.row (filled L ⟨0, 0, 0⟩ 0) from by rw [filled_zero]; exact encTask.rep ⟨0, 0, 0⟩ _]
  refine loop_count L.length (fun k => ⟨[(0, .sl 0 0 L.length c), (3, .sl 1 0 L.length L.length), (4, .i .i64 k)], [.ro (encTask.row L), .rw ty_impl_Task (encTask.row (filled L ⟨0, 0, 0⟩ k)) (L.length * 3)]⟩) (fun k => True) trivial (Wk.pick [0, 1]) fun k hk _ => ?_
  simp only [l0_laws_toTaskS, go_sem, Int.reduceToNat, List.take_nil, Nat.zero_mul, Nat.reduceEqDiff, Nat.reduceAdd, Nat.reduceLT, Nat.reduceLeDiff, Nat.reduceMul, ↓reduceIte, reduceCtorEq, lenT, rdT0, rdT1, rdT2, winT, takeT, appT, splT, splI, winI, lenI, rdI, takeI, appI]
  refine ⟨fun h => ?_, fun h => ?_⟩
  · simp only [go_sem, Int.reduceToNat, List.take_nil, Nat.zero_mul, Nat.reduceEqDiff, Nat.reduceAdd, Nat.reduceLT, Nat.reduceLeDiff, Nat.reduceMul, ↓reduceIte, reduceCtorEq, lenT, rdT0, rdT1, rdT2, winT, takeT, appT, splT, splI, winI, lenI, rdI, takeI, appI, h]
    refine ⟨by omega, laws_toTask_ _ ?_⟩
    simp only [go_sem, Int.reduceToNat, List.take_nil, Nat.zero_mul, Nat.reduceEqDiff, Nat.reduceAdd, Nat.reduceLT, Nat.reduceLeDiff, Nat.reduceMul, ↓reduceIte, reduceCtorEq, lenT, rdT0, rdT1, rdT2, winT, takeT, appT, splT, splI, winI, lenI, rdI, takeI, appI, h, encTask.len]
    rw [filled_length _ _ _ hk, show spl (encTask.row (filled L ⟨0, 0, 0⟩ k)) (k * 3) (encTask.f L[k]) = encTask.row (filled L ⟨0, 0, 0⟩ (k + 1)) from by rw [← filled_set L _ k h]; exact encTask.set _ k (by rw [filled_length _ _ _ hk]; exact h) _]
    exact ⟨rfl, by omega, by omega, Wk.pick [0, 1]⟩
  · have e : k = L.length := by omega
    subst e
    refine Fin.plain ⟨L.length, rfl, ?_⟩
    rw [filled_all]

theorem laws_toTaskS_ {L : List Task} (hs : L.length ≤ 1099511627776) {v : AV} {σ : List AB} (h : Rd encTask σ v L) {K : AV → List AB → Prop} (hk : ∀ cap, K (.sl σ.length 0 L.length cap) (σ ++ [.rw ty_impl_Task (encTask.row L) (cap * 3)])) : CallWp Try.prog n_laws_toTaskS [v] σ K :=
  call_new _ (rds1 h.r) (fun c => [.sl 0 0 L.length (c 0)]) (fun c => laws_toTaskS0 L hs (c 0)) (fun ν c h => ⟨h.1, trivial⟩) (fun _ => rfl) (encTask.row_flat L) hk

theorem laws_toIntS0 (L : List Int) (hs : L.length ≤ 1099511627776) (c : Nat) : CallWp Try.prog n_laws_toIntS [.sl 0 0 L.length c] [.ro (encInt.row L)] (fun x σ => ∃ cap, x = .sl 1 0 L.length cap ∧ σ = [.ro (encInt.row L)] ++ [.rw ty_int (encInt.row L) (cap * 1)]) := by
  refine call_laws_toIntS (by simp) ?_
  simp only [c_laws_toIntS, go_sem, Int.reduceToNat, List.take_nil, Nat.zero_mul, Nat.reduceEqDiff, Nat.reduceAdd, Nat.reduceLT, Nat.reduceLeDiff, Nat.reduceMul, ↓reduceIte, reduceCtorEq]
  refine ⟨by omega, ?_⟩
  rw [show rep L.length [AV.i .i64 0] = encInt.row (filled L 0 0) from by rw [filled_zero]; exact encInt.rep 0 _]
  refine loop_count L.length (fun k => ⟨[(0, .sl 0 0 L.length c), (3, .sl 1 0 L.length L.length), (4, .i .i64 k)], [.ro (encInt.row L), .rw ty_int (encInt.row (filled L 0 k)) L.length]⟩) (fun k => True) trivial (Wk.pick [0, 1]) fun k hk _ => ?_
  simp only [l0_laws_toIntS, go_sem, Int.reduceToNat, List.take_nil, Nat.zero_mul, Nat.reduceEqDiff, Nat.reduceAdd, Nat.reduceLT, Nat.reduceLeDiff, Nat.reduceMul, ↓reduceIte, reduceCtorEq, lenT, rdT0, rdT1, rdT2, winT, takeT, appT, splT, splI, winI, lenI, rdI, takeI, appI]
  refine ⟨fun h => ?_, fun h => ?_⟩
  · simp only [go_sem, Int.reduceToNat, List.take_nil, Nat.zero_mul, Nat.reduceEqDiff, Nat.reduceAdd, Nat.reduceLT, Nat.reduceLeDiff, Nat.reduceMul, ↓reduceIte, reduceCtorEq, lenT, rdT0, rdT1, rdT2, winT, takeT, appT, splT, splI, winI, lenI, rdI, takeI, appI, h]
    rw [filled_length _ _ _ hk, show spl (encInt.row (filled L 0 k)) k [.i .i64 L[k]] = encInt.row (filled L 0 (k + 1)) from by rw [← filled_set L _ k h]; simpa [encInt] using encInt.set _ k (by rw [filled_length _ _ _ hk]; exact h) L[k]]
    exact ⟨by omega, by omega, Wk.pick [0, 1]⟩
  · have e : k = L.length := by omega
    subst e
    refine Fin.plain ⟨L.length, rfl, ?_⟩
    rw [filled_all]

theorem laws_toIntS_ {L : List Int} (hs : L.length ≤ 1099511627776) {v : AV} {σ : List AB} (h : Rd encInt σ v L) {K : AV → List AB → Prop} (hk : ∀ cap, K (.sl σ.length 0 L.length cap) (σ ++ [.rw ty_int (encInt.row L) (cap * 1)])) : CallWp Try.prog n_laws_toIntS [v] σ K :=
  call_new _ (rds1 h.r) (fun c => [.sl 0 0 L.length (c 0)]) (fun c => laws_toIntS0 L hs (c 0)) (fun ν c h => ⟨h.1, trivial⟩) (fun _ => rfl) (encInt.row_flat L) hk

theorem laws_eqTask_ (t u : Task) {σ : List AB} {K : AV → List AB → Prop} (hk : K (.b (decide (t = u))) σ) : CallWp Try.prog n_laws_eqTask [.agg (encTask.f t), .agg (encTask.f u)] σ K := by
  refine call0 (r := .b (decide (t = u))) ?_ rfl rfl hk
  refine call_laws_eqTask (by simp) ?_
  simp only [c_laws_eqTask, encTask, go_sem, Int.reduceToNat, List.take_nil, Nat.zero_mul, Nat.reduceEqDiff, Nat.reduceAdd, Nat.reduceLT, Nat.reduceLeDiff, Nat.reduceMul, ↓reduceIte, reduceCtorEq]
  refine ⟨fun h1 => Fin.same ?_, fun h1 => ⟨fun h2 => Fin.same ?_, fun h2 => ⟨fun h3 => Fin.same ?_, fun h3 => Fin.same ?_⟩⟩⟩
  · congr 1; symm; apply decide_eq_false; rintro rfl; exact h1 rfl
  · congr 1; symm; apply decide_eq_false; rintro rfl; exact h2 rfl
  · congr 1; symm; apply decide_eq_false; rintro rfl; exact h3 rfl
  · congr 1; symm; apply decide_eq_true
    cases t; cases u; simp only at h1 h2 h3; subst h1 h2 h3; rfl

theorem laws_eqTaskS0 (L M : List Task) (hs : L.length ≤ 1099511627776) (c c' : Nat) : CallWp Try.prog n_laws_eqTaskS [.sl 0 0 L.length c, .sl 1 0 M.length c'] [.ro (encTask.row L), .ro (encTask.row M)] (fun x σ => x = .b (decide (L = M)) ∧ σ = [.ro (encTask.row L), .ro (encTask.row M)]) := by
  refine call_laws_eqTaskS (by simp) ?_
  simp only [c_laws_eqTaskS, go_sem, Int.reduceToNat, List.take_nil, Nat.zero_mul, Nat.reduceEqDiff, Nat.reduceAdd, Nat.reduceLT, Nat.reduceLeDiff, Nat.reduceMul, ↓reduceIte, reduceCtorEq]
  refine ⟨fun h => Fin.same ?_, fun hl => ?_⟩
  · congr 1; symm; apply decide_eq_false; rintro rfl; exact h rfl
  refine loop_count L.length (fun k => ⟨[(0, .sl 0 0 L.length c), (1, .sl 1 0 M.length c'), (5, .i .i64 k)], [.ro (encTask.row L), .ro (encTask.row M)]⟩) (fun k => L.take k = M.take k) (by simp) (Wk.pick [0, 1]) fun k hk hJ => ?_
  simp only [l0_laws_eqTaskS, go_sem, Int.reduceToNat, List.take_nil, Nat.zero_mul, Nat.reduceEqDiff, Nat.reduceAdd, Nat.reduceLT, Nat.reduceLeDiff, Nat.reduceMul, ↓reduceIte, reduceCtorEq, lenT, rdT0, rdT1, rdT2, winT, takeT, appT, splT, splI, winI, lenI, rdI, takeI, appI]
  refine ⟨fun h => ?_, fun h => Fin.same ?_⟩
  · have h' : k < M.length := by omega
    simp only [go_sem, Int.reduceToNat, List.take_nil, Nat.zero_mul, Nat.reduceEqDiff, Nat.reduceAdd, Nat.reduceLT, Nat.reduceLeDiff, Nat.reduceMul, ↓reduceIte, reduceCtorEq, lenT, rdT0, rdT1, rdT2, winT, takeT, appT, splT, splI, winI, lenI, rdI, takeI, appI, h, h']
    refine ⟨by omega, by omega, onCall.by (laws_eqTask_ _ _ ⟨rfl, rfl⟩) ?_⟩
    simp only [go_sem, Int.reduceToNat, List.take_nil, Nat.zero_mul, Nat.reduceEqDiff, Nat.reduceAdd, Nat.reduceLT, Nat.reduceLeDiff, Nat.reduceMul, ↓reduceIte, reduceCtorEq]
    refine ⟨fun h1 => Fin.same ?_, fun h1 => ⟨by omega, ?_, Wk.pick [0, 1]⟩⟩
    · congr 1; symm; apply decide_eq_false; rintro rfl; exact h1 rfl
    · rw [List.take_succ_eq_append_getElem h, List.take_succ_eq_append_getElem h', hJ, h1]
  · congr 1; symm; apply decide_eq_true
    rw [List.take_of_length_le (by omega), List.take_of_length_le (by omega)] at hJ
    exact hJ

theorem laws_eqTaskS_ {L M : List Task} (hs : L.length ≤ 1099511627776) {v u : AV} {σ : List AB} (h : Rd encTask σ v L) (h' : Rd encTask σ u M) {K : AV → List AB → Prop} (hk : K (.b (decide (L = M))) σ) : CallWp Try.prog n_laws_eqTaskS [v, u] σ K :=
  call_rds _ (rds_cons h.r (rds1 h'.r)) (fun c => [.sl 0 0 L.length (c 0), .sl 1 0 M.length (c 1)]) (fun c => laws_eqTaskS0 L M hs (c 0) (c 1)) (fun ν c h => ⟨h.1, h.2.1, trivial⟩) (fun _ => rfl) rfl hk

theorem laws_eqIntS0 (L M : List Int) (hs : L.length ≤ 1099511627776) (c c' : Nat) : CallWp Try.prog n_laws_eqIntS [.sl 0 0 L.length c, .sl 1 0 M.length c'] [.ro (encInt.row L), .ro (encInt.row M)] (fun x σ => x = .b (decide (L = M)) ∧ σ = [.ro (encInt.row L), .ro (encInt.row M)]) := by
  refine call_laws_eqIntS (by simp) ?_
  simp only [c_laws_eqIntS, go_sem, Int.reduceToNat, List.take_nil, Nat.zero_mul, Nat.reduceEqDiff, Nat.reduceAdd, Nat.reduceLT, Nat.reduceLeDiff, Nat.reduceMul, ↓reduceIte, reduceCtorEq]
  refine ⟨fun h => Fin.same ?_, fun hl => ?_⟩
  · congr 1; symm; apply decide_eq_false; rintro rfl; exact h rfl
  refine loop_count L.length (fun k => ⟨[(0, .sl 0 0 L.length c), (1, .sl 1 0 M.length c'), (5, .i .i64 k)], [.ro (encInt.row L), .ro (encInt.row M)]⟩) (fun k => L.take k = M.take k) (by simp) (Wk.pick [0, 1]) fun k hk hJ => ?_
  simp only [l0_laws_eqIntS, go_sem, Int.reduceToNat, List.take_nil, Nat.zero_mul, Nat.reduceEqDiff, Nat.reduceAdd, Nat.reduceLT, Nat.reduceLeDiff, Nat.reduceMul, ↓reduceIte, reduceCtorEq, lenT, rdT0, rdT1, rdT2, winT, takeT, appT, splT, splI, winI, lenI, rdI, takeI, appI]
  refine ⟨fun h => ?_, fun h => Fin.same ?_⟩
  · have h' : k < M.length := by omega
    simp only [go_sem, Int.reduceToNat, List.take_nil, Nat.zero_mul, Nat.reduceEqDiff, Nat.reduceAdd, Nat.reduceLT, Nat.reduceLeDiff, Nat.reduceMul, ↓reduceIte, reduceCtorEq, lenT, rdT0, rdT1, rdT2, winT, takeT, appT, splT, splI, winI, lenI, rdI, takeI, appI, h, h']
    refine ⟨fun h1 => Fin.same ?_, fun h1 => ⟨by omega, ?_, Wk.pick [0, 1]⟩⟩
    · congr 1; symm; apply decide_eq_false; rintro rfl; exact h1 rfl
    · rw [List.take_succ_eq_append_getElem h, List.take_succ_eq_append_getElem h', hJ, h1]
  · congr 1; symm; apply decide_eq_true
    rw [List.take_of_length_le (by omega), List.take_of_length_le (by omega)] at hJ
    exact hJ

theorem laws_eqIntS_ {L M : List Int} (hs : L.length ≤ 1099511627776) {v u : AV} {σ : List AB} (h : Rd encInt σ v L) (h' : Rd encInt σ u M) {K : AV → List AB → Prop} (hk : K (.b (decide (L = M))) σ) : CallWp Try.prog n_laws_eqIntS [v, u] σ K :=
  call_rds _ (rds_cons h.r (rds1 h'.r)) (fun c => [.sl 0 0 L.length (c 0), .sl 1 0 M.length (c 1)]) (fun c => laws_eqIntS0 L M hs (c 0) (c 1)) (fun ν c h => ⟨h.1, h.2.1, trivial⟩) (fun _ => rfl) rfl hk

/-- What is left after a list has been counted. -/
theorem laws_szTaskS0 (L : List Task) (n : Int) (hs : L.length ≤ 4611686018427387904) (hn : 0 ≤ n ∧ n ≤ 1099511627776) (c : Nat) : CallWp Try.prog n_laws_szTaskS [.sl 0 0 L.length c, .i .i64 n] [.ro (encTask.row L)] (fun x σ => x = .i .i64 (if n < L.length then -1 else n - L.length) ∧ σ = [.ro (encTask.row L)]) := by
  refine call_laws_szTaskS (by simp) ?_
  simp only [c_laws_szTaskS, go_sem, Int.reduceToNat, List.take_nil, Nat.zero_mul, Nat.reduceEqDiff, Nat.reduceAdd, Nat.reduceLT, Nat.reduceLeDiff, Nat.reduceMul, ↓reduceIte, reduceCtorEq]
  refine ⟨by omega, fun h => Fin.same ?_, fun h => Fin.same ?_⟩
  · rw [if_pos (by omega)]
  · rw [if_neg (by omega)]

theorem laws_szTaskS_ {L : List Task} {n : Int} (hs : L.length ≤ 4611686018427387904) (hn : 0 ≤ n ∧ n ≤ 1099511627776) {v : AV} {σ : List AB} (h : Rd encTask σ v L) {K : AV → List AB → Prop} (hk : K (.i .i64 (if n < L.length then -1 else n - L.length)) σ) : CallWp Try.prog n_laws_szTaskS [v, .i .i64 n] σ K :=
  call_rds _ (rds1 h.r) (fun c => [.sl 0 0 L.length (c 0), .i .i64 n]) (fun c => laws_szTaskS0 L n hs hn (c 0)) (fun ν c h => ⟨h.1, .inl rfl, trivial⟩) (fun _ => rfl) rfl hk
end Go.Proofs.Ytdmoafmgeipenaa
