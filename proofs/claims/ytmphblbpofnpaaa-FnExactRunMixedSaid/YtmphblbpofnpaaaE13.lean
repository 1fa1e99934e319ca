import Derived.Test.YtmphblbpofnpaaaSX
import Derived.Test.YtmphblbpofnpaaaE9
namespace Go.Proofs.Ytmphblbpofnpaaa
open Go.Abs Go.Ds
set_option linter.unusedSimpArgs false
set_option linter.unusedVariables false
set_option maxRecDepth 20000
theorem laws_toMixedTask_ (t : MTask) {σ : List AB} {K : AV → List AB → Prop} (hk : K (.agg (encMT.f t)) σ) : CallWp Try.prog n_laws_toMixedTask [.agg (encMT.f t)] σ K := by
  refine call0 (r := .agg (encMT.f t)) ?_ rfl rfl hk
  refine call_laws_toMixedTask (by simp) ?_
  simp only [c_laws_toMixedTask, encMT, go_sem, Int.reduceToNat, List.take_nil, Nat.zero_mul, Nat.reduceEqDiff, Nat.reduceAdd, Nat.reduceLT, Nat.reduceLeDiff, Nat.reduceMul, ↓reduceIte, reduceCtorEq]
  exact Fin.same rfl
theorem laws_toMixedTaskS0 (L : List MTask) (hs : L.length ≤ 1099511627776) (c : Nat) : CallWp Try.prog n_laws_toMixedTaskS [.sl 0 0 L.length c] [.ro (encMT.row L)] (fun x σ => ∃ cap, x = .sl 1 0 L.length cap ∧ σ = [.ro (encMT.row L)] ++ [.rw ty_impl_MixedTask (encMT.row L) (cap * 4)]) := by
  refine call_laws_toMixedTaskS (by simp) ?_
  simp only [c_laws_toMixedTaskS, go_sem, Int.reduceToNat, List.take_nil, Nat.zero_mul, Nat.reduceEqDiff, Nat.reduceAdd, Nat.reduceLT, Nat.reduceLeDiff, Nat.reduceMul, ↓reduceIte, reduceCtorEq]
  refine ⟨by omega, ?_⟩
  rw [show rep L.length [AV.i .i64 0, .i .i64 0, .i .i64 0, .b false] = encMT.row (filled L ⟨0, 0, 0, false⟩ 0) from by rw [filled_zero]; exact encMT.rep ⟨0, 0, 0, false⟩ _]
  refine loop_count L.length (fun k => ⟨[(0, .sl 0 0 L.length c), (3, .sl 1 0 L.length L.length), (4, .i .i64 k)], [.ro (encMT.row L), .rw ty_impl_MixedTask (encMT.row (filled L ⟨0, 0, 0, false⟩ k)) (L.length * 4)]⟩) (fun k => True) trivial (Wk.pick [0, 1]) fun k hk _ => ?_
  simp only [l0_laws_toMixedTaskS, go_sem, Int.reduceToNat, List.take_nil, Nat.zero_mul, Nat.reduceEqDiff, Nat.reduceAdd, Nat.reduceLT, Nat.reduceLeDiff, Nat.reduceMul, ↓reduceIte, reduceCtorEq, lenM, encMf]
  refine ⟨fun h => ?_, fun h => ?_⟩
  · simp only [go_sem, Int.reduceToNat, List.take_nil, Nat.zero_mul, Nat.reduceEqDiff, Nat.reduceAdd, Nat.reduceLT, Nat.reduceLeDiff, Nat.reduceMul, ↓reduceIte, reduceCtorEq, lenM, winM h, h]
    refine ⟨by omega, laws_toMixedTask_ _ ?_⟩
    simp only [go_sem, Int.reduceToNat, List.take_nil, Nat.zero_mul, Nat.reduceEqDiff, Nat.reduceAdd, Nat.reduceLT, Nat.reduceLeDiff, Nat.reduceMul, ↓reduceIte, reduceCtorEq, lenM, winM h, h, encMT.len]
    rw [filled_length _ _ _ hk, show spl (encMT.row (filled L ⟨0, 0, 0, false⟩ k)) (k * 4) (encMT.f L[k]) = encMT.row (filled L ⟨0, 0, 0, false⟩ (k + 1)) from by rw [← filled_set L _ k h]; exact encMT.set _ k (by rw [filled_length _ _ _ hk]; exact h) _]
    exact ⟨rfl, by omega, by omega, Wk.pick [0, 1]⟩
  · have e : k = L.length := by omega
    subst e
    refine Fin.plain ⟨L.length, rfl, ?_⟩
    rw [filled_all]
theorem laws_toMixedTaskS_ {L : List MTask} (hs : L.length ≤ 1099511627776) {v : AV} {σ : List AB} (h : Rd encMT σ v L) {K : AV → List AB → Prop} (hk : ∀ cap, K (.sl σ.length 0 L.length cap) (σ ++ [.rw ty_impl_MixedTask (encMT.row L) (cap * 4)])) : CallWp Try.prog n_laws_toMixedTaskS [v] σ K :=
  call_new _ (rds1 h.r) (fun c => [.sl 0 0 L.length (c 0)]) (fun c => laws_toMixedTaskS0 L hs (c 0)) (fun ν c h => ⟨h.1, trivial⟩) (fun _ => rfl) (encMT.row_flat L) hk
theorem laws_eqMixedTask_ (t u : MTask) {σ : List AB} {K : AV → List AB → Prop} (hk : K (.b (decide (t = u))) σ) : CallWp Try.prog n_laws_eqMixedTask [.agg (encMT.f t), .agg (encMT.f u)] σ K := by
  refine call0 (r := .b (decide (t = u))) ?_ rfl rfl hk
  refine call_laws_eqMixedTask (by simp) ?_
  simp only [c_laws_eqMixedTask, encMT, go_sem, Int.reduceToNat, List.take_nil, Nat.zero_mul, Nat.reduceEqDiff, Nat.reduceAdd, Nat.reduceLT, Nat.reduceLeDiff, Nat.reduceMul, ↓reduceIte, reduceCtorEq]
  refine ⟨fun h1 => Fin.same ?_, fun h1 => ⟨fun h2 => Fin.same ?_, fun h2 => ⟨fun h3 => Fin.same ?_, fun h3 => ⟨fun h4 => Fin.same ?_, fun h4 => Fin.same ?_⟩⟩⟩⟩
  · congr 1; symm; apply decide_eq_false; rintro rfl; exact h1 rfl
  · congr 1; symm; apply decide_eq_false; rintro rfl; exact h2 rfl
  · congr 1; symm; apply decide_eq_false; rintro rfl; exact h3 rfl
  · congr 1; symm; apply decide_eq_false; rintro rfl; exact h4 rfl
  · congr 1; symm; apply decide_eq_true
    cases t; cases u; simp only at h1 h2 h3 h4; subst h1 h2 h3 h4; rfl
theorem laws_eqMixedTaskS0 (L M : List MTask) (hs : L.length ≤ 1099511627776) (c c' : Nat) : CallWp Try.prog n_laws_eqMixedTaskS [.sl 0 0 L.length c, .sl 1 0 M.length c'] [.ro (encMT.row L), .ro (encMT.row M)] (fun x σ => x = .b (decide (L = M)) ∧ σ = [.ro (encMT.row L), .ro (encMT.row M)]) := by
  refine call_laws_eqMixedTaskS (by simp) ?_
  simp only [c_laws_eqMixedTaskS, go_sem, Int.reduceToNat, List.take_nil, Nat.zero_mul, Nat.reduceEqDiff, Nat.reduceAdd, Nat.reduceLT, Nat.reduceLeDiff, Nat.reduceMul, ↓reduceIte, reduceCtorEq]
  refine ⟨fun h => Fin.same ?_, fun hl => ?_⟩
  · congr 1; symm; apply decide_eq_false; rintro rfl; exact h rfl
  refine loop_count L.length (fun k => ⟨[(0, .sl 0 0 L.length c), (1, .sl 1 0 M.length c'), (5, .i .i64 k)], [.ro (encMT.row L), .ro (encMT.row M)]⟩) (fun k => L.take k = M.take k) (by simp) (Wk.pick [0, 1]) fun k hk hJ => ?_
  simp only [l0_laws_eqMixedTaskS, go_sem, Int.reduceToNat, List.take_nil, Nat.zero_mul, Nat.reduceEqDiff, Nat.reduceAdd, Nat.reduceLT, Nat.reduceLeDiff, Nat.reduceMul, ↓reduceIte, reduceCtorEq, lenM, encMf]
  refine ⟨fun h => ?_, fun h => Fin.same ?_⟩
  · have h' : k < M.length := by omega
    simp only [go_sem, Int.reduceToNat, List.take_nil, Nat.zero_mul, Nat.reduceEqDiff, Nat.reduceAdd, Nat.reduceLT, Nat.reduceLeDiff, Nat.reduceMul, ↓reduceIte, reduceCtorEq, lenM, winM h, winM h', h, h']
    refine ⟨by omega, by omega, onCall.by (laws_eqMixedTask_ _ _ ⟨rfl, rfl⟩) ?_⟩
    simp only [go_sem, Int.reduceToNat, List.take_nil, Nat.zero_mul, Nat.reduceEqDiff, Nat.reduceAdd, Nat.reduceLT, Nat.reduceLeDiff, Nat.reduceMul, ↓reduceIte, reduceCtorEq]
    refine ⟨fun h1 => Fin.same ?_, fun h1 => ⟨by omega, ?_, Wk.pick [0, 1]⟩⟩
    · congr 1; symm; apply decide_eq_false; rintro rfl; exact h1 rfl
    · rw [List.take_succ_eq_append_getElem h, List.take_succ_eq_append_getElem h', hJ, h1]
  · congr 1; symm; apply decide_eq_true
    rw [List.take_of_length_le (by omega), List.take_of_length_le (by omega)] at hJ
    exact hJ
theorem laws_eqMixedTaskS_ {L M : List MTask} (hs : L.length ≤ 1099511627776) {v u : AV} {σ : List AB} (h : Rd encMT σ v L) (h' : Rd encMT σ u M) {K : AV → List AB → Prop} (hk : K (.b (decide (L = M))) σ) : CallWp Try.prog n_laws_eqMixedTaskS [v, u] σ K :=
  call_rds _ (rds_cons h.r (rds1 h'.r)) (fun c => [.sl 0 0 L.length (c 0), .sl 1 0 M.length (c 1)]) (fun c => laws_eqMixedTaskS0 L M hs (c 0) (c 1)) (fun ν c h => ⟨h.1, h.2.1, trivial⟩) (fun _ => rfl) rfl hk
theorem laws_szMixedTaskS0 (L : List MTask) (n : Int) (hs : L.length ≤ 4611686018427387904) (hn : 0 ≤ n ∧ n ≤ 1099511627776) (c : Nat) : CallWp Try.prog n_laws_szMixedTaskS [.sl 0 0 L.length c, .i .i64 n] [.ro (encMT.row L)] (fun x σ => x = .i .i64 (if n < L.length then -1 else n - L.length) ∧ σ = [.ro (encMT.row L)]) := by
  refine call_laws_szMixedTaskS (by simp) ?_
  simp only [c_laws_szMixedTaskS, go_sem, Int.reduceToNat, List.take_nil, Nat.zero_mul, Nat.reduceEqDiff, Nat.reduceAdd, Nat.reduceLT, Nat.reduceLeDiff, Nat.reduceMul, ↓reduceIte, reduceCtorEq]
  refine ⟨by omega, fun h => Fin.same ?_, fun h => Fin.same ?_⟩
  · rw [if_pos (by omega)]
  · rw [if_neg (by omega)]
theorem laws_szMixedTaskS_ {L : List MTask} {n : Int} (hs : L.length ≤ 4611686018427387904) (hn : 0 ≤ n ∧ n ≤ 1099511627776) {v : AV} {σ : List AB} (h : Rd encMT σ v L) {K : AV → List AB → Prop} (hk : K (.i .i64 (if n < L.length then -1 else n - L.length)) σ) : CallWp Try.prog n_laws_szMixedTaskS [v, .i .i64 n] σ K :=
  call_rds _ (rds1 h.r) (fun c => [.sl 0 0 L.length (c 0), .i .i64 n]) (fun c => laws_szMixedTaskS0 L n hs hn (c 0)) (fun ν c h => ⟨h.1, .inl rfl, trivial⟩) (fun _ => rfl) rfl hk
def markedM (k : Int) (L : List MTask) (m : Nat) : List MTask := (List.range m).map (fun j : Nat => ⟨k + 4 * (j : Int), k + 4 * (j : Int) + 1, k + 4 * (j : Int) + 2, decide ((k + 4 * (j : Int) + 3) % 3 = 0)⟩) ++ L.drop m
theorem markedM_length (k : Int) (L : List MTask) (m : Nat) (h : m ≤ L.length) : (markedM k L m).length = L.length := by simp [markedM]; omega
theorem markedM_zero (k : Int) (L : List MTask) : markedM k L 0 = L := by simp [markedM]
theorem markedM_set (k : Int) (L : List MTask) (m : Nat) (h : m < L.length) : (markedM k L m).set m ⟨k + 4 * m, k + 4 * m + 1, k + 4 * m + 2, decide ((k + 4 * m + 3) % 3 = 0)⟩ = markedM k L (m + 1) := by
  unfold markedM
  rw [List.set_append_right _ _ (by simp), List.range_succ, List.map_append, List.append_assoc]
  congr 1
  simp only [List.length_map, List.length_range, Nat.sub_self, List.map_cons, List.map_nil]
  rw [List.drop_eq_getElem_cons h]
  rfl
theorem splM {L : List MTask} {k : Nat} (h : k < L.length) (a b c : Int) (d : Bool) : spl (encMT.row L) (k * 4) [.i .i64 a, .i .i64 b, .i .i64 c, .b d] = encMT.row (L.set k ⟨a, b, c, d⟩) := by simpa [encMT] using encMT.set L k h ⟨a, b, c, d⟩
theorem laws_markMixedTaskS0 (L : List MTask) (k : Int) (hs : L.length ≤ 1099511627776) (hk : 0 ≤ k ∧ k ≤ 1099511627776) (c r : Nat) : CallWp Try.prog n_laws_markMixedTaskS [.sl 0 0 L.length c, .i .i64 k] [.rw ty_impl_MixedTask (encMT.row L) r]
    (fun x σ => x = .i .i64 (k + 4 * L.length) ∧ σ = [.rw ty_impl_MixedTask (encMT.row (markedM k L L.length)) r]) := by
  refine call_laws_markMixedTaskS (by simp) ?_
  simp only [c_laws_markMixedTaskS, go_sem, Int.reduceToNat, List.take_nil, Nat.zero_mul, Nat.reduceEqDiff, Nat.reduceAdd, Nat.reduceLT, Nat.reduceLeDiff, Nat.reduceMul, ↓reduceIte, reduceCtorEq]
  refine loop_count L.length (fun m => ⟨[(0, .sl 0 0 L.length c), (1, .i .i64 (k + 4 * m)), (5, .i .i64 m)], [.rw ty_impl_MixedTask (encMT.row (markedM k L m)) r]⟩) (fun _ => True) trivial ?_ fun m hm _ => ?_
  · rw [markedM_zero]
    exact Wk.pick [0]
  simp only [l0_laws_markMixedTaskS, go_sem, Int.reduceToNat, List.take_nil, Nat.zero_mul, Nat.reduceEqDiff, Nat.reduceAdd, Nat.reduceLT, Nat.reduceLeDiff, Nat.reduceMul, ↓reduceIte, reduceCtorEq]
  refine ⟨fun h => ?_, fun h => ?_⟩
  · have hm' : m < (markedM k L m).length := by rw [markedM_length _ _ _ hm]; exact h
    simp only [go_sem, Int.reduceToNat, List.take_nil, Nat.zero_mul, Nat.reduceEqDiff, Nat.reduceAdd, Nat.reduceLT, Nat.reduceLeDiff, Nat.reduceMul, ↓reduceIte, reduceCtorEq, lenM, len1, h, markedM_length _ _ _ hm]
    have hmod : (k + 4 * (m : Int) + 1 + 1 + 1).tmod 3 = (k + 4 * m + 3) % 3 := by rw [Int.tmod_eq_emod_of_nonneg (by omega), show k + 4 * (m : Int) + 1 + 1 + 1 = k + 4 * m + 3 from by omega]
    rw [spl4, splM hm', hmod, show k + 4 * (m : Int) + 1 + 1 = k + 4 * m + 2 from by omega, markedM_set k L m h]
    iterate 10 refine ⟨by omega, ?_⟩
    exact Wk.pick [0] (by simp [seesT, belowT, below1, below, sees, ren, ren1, renC, rnp, nat2, look_cons]; omega)
  · have e : m = L.length := by omega
    subst e
    exact Fin.plain ⟨rfl, rfl⟩
theorem laws_markMixedTaskS_ {L : List MTask} {k : Int} (hs : L.length ≤ 1099511627776) (hk : 0 ≤ k ∧ k ≤ 1099511627776) {σ : List AB} {n c r : Nat} (h : σ[n]? = some (.rw ty_impl_MixedTask (encMT.row L) r)) {K : AV → List AB → Prop} (hK : K (.i .i64 (k + 4 * L.length)) (σ.set n (.rw ty_impl_MixedTask (encMT.row (markedM k L L.length)) r))) :
    CallWp Try.prog n_laws_markMixedTaskS [.sl n 0 L.length c, .i .i64 k] σ K :=
  call_mut h (encMT.row_flat _) (encMT.row_flat _) (laws_markMixedTaskS0 L k hs hk c r) rfl rfl hK
theorem laws_eqMixedRun_ {σ : List AB} {x1 y1 x2 y2 : AV} {s1 s2 : Int} {X1 Y1 X2 Y2 : List Int} (h1 : Rd encInt σ x1 X1) (h2 : Rd encInt σ y1 Y1) (h3 : Rd encInt σ x2 X2) (h4 : Rd encInt σ y2 Y2) (l1 : X1.length ≤ 1000000) (l2 : Y1.length ≤ 1000000)
    {K : AV → List AB → Prop} (hk : K (.b (decide ((X1 = X2 ∧ Y1 = Y2) ∧ s1 = s2))) σ) : CallWp Try.prog n_laws_eqMixedRun [.agg [x1, y1, .i .i64 s1], .agg [x2, y2, .i .i64 s2]] σ K := by
  refine callC_laws_eqMixedRun (by simp) fun hC hA => ?_
  have d1 := h1.data
  have d2 := h2.data
  have d3 := h3.data
  have d4 := h4.data
  simp only [c_laws_eqMixedRun, List.append_assoc, at_new, at_new0, set_new, set_new0, d1, d2, d3, d4, not_true_eq_false, not_false_eq_true, decide_true, decide_false, Bool.not_true, Bool.not_false, false_implies, true_implies, and_true, true_and, Bool.false_eq_true, Bool.true_eq_false, implies_true, Bool.not_not, Classical.not_not, go_sem, Int.reduceToNat, List.take_nil, Nat.zero_mul, Nat.reduceEqDiff, Nat.reduceAdd, Nat.reduceLT, Nat.reduceLeDiff, Nat.reduceMul, ↓reduceIte, reduceCtorEq]
  have go : ∀ {τ : List AB} {v u : AV} {L M : List Int}, Rd encInt σ v L → Rd encInt σ u M → L.length ≤ 1000000 → ∀ {K : AV → List AB → Prop}, K (.b (decide (L = M))) (σ ++ τ) → CallWp Try.prog n_laws_eqIntS [v, u] (σ ++ τ) K := fun a1 a2 a3 K hk => laws_eqIntS_ (by omega) a1.app a2.app hk
  refine go h1 h3 l1 ?_
  simp only [List.append_assoc, at_new, at_new0, set_new, set_new0, d1, d2, d3, d4, not_true_eq_false, not_false_eq_true, decide_true, decide_false, Bool.not_true, Bool.not_false, false_implies, true_implies, and_true, true_and, Bool.false_eq_true, Bool.true_eq_false, implies_true, Bool.not_not, Classical.not_not, go_sem, Int.reduceToNat, List.take_nil, Nat.zero_mul, Nat.reduceEqDiff, Nat.reduceAdd, Nat.reduceLT, Nat.reduceLeDiff, Nat.reduceMul, ↓reduceIte, reduceCtorEq]
  refine ⟨fun e => ?_, fun e => ?_⟩
  · rw [show decide ((X1 = X2 ∧ Y1 = Y2) ∧ s1 = s2) = false from decide_eq_false fun h => e h.1.1] at hk
    exact Fin.drop hC (Nat.le_refl _) rfl hk
  · refine go h2 h4 l2 ?_
    simp only [List.append_assoc, at_new, at_new0, set_new, set_new0, d1, d2, d3, d4, not_true_eq_false, not_false_eq_true, decide_true, decide_false, Bool.not_true, Bool.not_false, false_implies, true_implies, and_true, true_and, Bool.false_eq_true, Bool.true_eq_false, implies_true, Bool.not_not, Classical.not_not, go_sem, Int.reduceToNat, List.take_nil, Nat.zero_mul, Nat.reduceEqDiff, Nat.reduceAdd, Nat.reduceLT, Nat.reduceLeDiff, Nat.reduceMul, ↓reduceIte, reduceCtorEq]
    refine ⟨fun e2 => ?_, fun e2 => ?_⟩
    · rw [show decide ((X1 = X2 ∧ Y1 = Y2) ∧ s1 = s2) = false from decide_eq_false fun h => e2 h.1.2] at hk
      exact Fin.drop hC (Nat.le_refl _) rfl hk
    · refine ⟨fun e3 => ?_, fun e3 => ?_⟩
      · rw [show decide ((X1 = X2 ∧ Y1 = Y2) ∧ s1 = s2) = false from decide_eq_false fun h => e3 h.2] at hk
        exact Fin.drop hC (Nat.le_refl _) rfl hk
      · rw [show decide ((X1 = X2 ∧ Y1 = Y2) ∧ s1 = s2) = true from decide_eq_true ⟨⟨e, e2⟩, e3⟩] at hk
        exact Fin.drop hC (Nat.le_refl _) rfl hk
theorem laws_heldMixedRun_ {σ : List AB} {x y : AV} {s : Int} {X Y : List Int} {k : Int} (h1 : Rd encInt σ x X) (h2 : Rd encInt σ y Y) (l1 : X.length ≤ 1000000) (l2 : Y.length ≤ 1000000) (hk0 : 0 ≤ k ∧ k ≤ 1000000000) (r1 : isRun k X) (r2 : isRun (k + X.length) Y)
    {K : AV → List AB → Prop} (hk : K (.i .i64 (k + X.length + Y.length)) σ) : CallWp Try.prog n_laws_heldMixedRun [.agg [x, y, .i .i64 s], .i .i64 k] σ K := by
  refine callC_laws_heldMixedRun (by simp) fun hC hA => ?_
  have d1 := h1.data
  have d2 := h2.data
  simp only [c_laws_heldMixedRun, List.append_assoc, at_new, at_new0, set_new, set_new0, d1, d2, not_true_eq_false, not_false_eq_true, decide_true, decide_false, Bool.not_true, Bool.not_false, false_implies, true_implies, and_true, true_and, Bool.false_eq_true, Bool.true_eq_false, implies_true, Bool.not_not, Classical.not_not, go_sem, Int.reduceToNat, List.take_nil, Nat.zero_mul, Nat.reduceEqDiff, Nat.reduceAdd, Nat.reduceLT, Nat.reduceLeDiff, Nat.reduceMul, ↓reduceIte, reduceCtorEq]
  refine laws_heldIntS_ (L := X) (by omega) (by omega) r1 h1.app ?_
  simp only [List.append_assoc, at_new, at_new0, set_new, set_new0, d1, d2, not_true_eq_false, not_false_eq_true, decide_true, decide_false, Bool.not_true, Bool.not_false, false_implies, true_implies, and_true, true_and, Bool.false_eq_true, Bool.true_eq_false, implies_true, Bool.not_not, Classical.not_not, go_sem, Int.reduceToNat, List.take_nil, Nat.zero_mul, Nat.reduceEqDiff, Nat.reduceAdd, Nat.reduceLT, Nat.reduceLeDiff, Nat.reduceMul, ↓reduceIte, reduceCtorEq]
  refine ⟨fun h => absurd h (by omega), fun _ => ?_⟩
  refine laws_heldIntS_ (L := Y) (by omega) (by omega) r2 h2.app ?_
  simp only [List.append_assoc, at_new, at_new0, set_new, set_new0, d1, d2, not_true_eq_false, not_false_eq_true, decide_true, decide_false, Bool.not_true, Bool.not_false, false_implies, true_implies, and_true, true_and, Bool.false_eq_true, Bool.true_eq_false, implies_true, Bool.not_not, Classical.not_not, go_sem, Int.reduceToNat, List.take_nil, Nat.zero_mul, Nat.reduceEqDiff, Nat.reduceAdd, Nat.reduceLT, Nat.reduceLeDiff, Nat.reduceMul, ↓reduceIte, reduceCtorEq]
  refine ⟨fun h => absurd h (by omega), fun _ => ?_⟩
  exact Fin.drop hC (Nat.le_refl _) rfl hk
theorem laws_markMixedRun_ {σ : List AB} {a b cx cy rx ry : Nat} {s : Int} {X Y : List Int} {k : Int} (ha : σ[a]? = some (.rw ty_int (encInt.row X) rx)) (hb : σ[b]? = some (.rw ty_int (encInt.row Y) ry)) (hab : a ≠ b) (l1 : X.length ≤ 1000000) (l2 : Y.length ≤ 1000000) (hk0 : 0 ≤ k ∧ k ≤ 1000000000)
    {K : AV → List AB → Prop} (hk : K (.i .i64 (k + X.length + Y.length)) ((σ.set a (.rw ty_int (encInt.row (marked k X X.length)) rx)).set b (.rw ty_int (encInt.row (marked (k + X.length) Y Y.length)) ry))) :
    CallWp Try.prog n_laws_markMixedRun [.agg [.sl a 0 X.length cx, .sl b 0 Y.length cy, .i .i64 s], .i .i64 k] σ K := by
  have la := (List.getElem?_eq_some_iff.1 ha).1
  have lb := (List.getElem?_eq_some_iff.1 hb).1
  refine callC_laws_markMixedRun (by simp) fun hC hA => ?_
  simp only [c_laws_markMixedRun, List.append_assoc, at_new, at_new0, set_new, set_new0, not_true_eq_false, not_false_eq_true, decide_true, decide_false, Bool.not_true, Bool.not_false, false_implies, true_implies, and_true, true_and, Bool.false_eq_true, Bool.true_eq_false, implies_true, Bool.not_not, Classical.not_not, go_sem, Int.reduceToNat, List.take_nil, Nat.zero_mul, Nat.reduceEqDiff, Nat.reduceAdd, Nat.reduceLT, Nat.reduceLeDiff, Nat.reduceMul, ↓reduceIte, reduceCtorEq]
  refine laws_markIntS_ (L := X) (by omega) (by omega) (at_old ha _) ?_
  rw [set_old la]
  have e1 : σ.length = (σ.set a (.rw ty_int (encInt.row (marked k X X.length)) rx)).length := by simp
  simp only [e1, at_new, at_new0, set_new, set_new0, not_true_eq_false, not_false_eq_true, decide_true, decide_false, Bool.not_true, Bool.not_false, false_implies, true_implies, and_true, true_and, Bool.false_eq_true, Bool.true_eq_false, implies_true, Bool.not_not, Classical.not_not, go_sem, Int.reduceToNat, List.take_nil, Nat.zero_mul, Nat.reduceEqDiff, Nat.reduceAdd, Nat.reduceLT, Nat.reduceLeDiff, Nat.reduceMul, ↓reduceIte, reduceCtorEq]
  have hb' : (σ.set a (.rw ty_int (encInt.row (marked k X X.length)) rx))[b]? = some (.rw ty_int (encInt.row Y) ry) := by
    rw [List.getElem?_set, if_neg hab]; exact hb
  refine laws_markIntS_ (L := Y) (by omega) (by omega) (at_old hb' _) ?_
  rw [set_old (by simpa using lb)]
  simp only [not_true_eq_false, not_false_eq_true, decide_true, decide_false, Bool.not_true, Bool.not_false, false_implies, true_implies, and_true, true_and, Bool.false_eq_true, Bool.true_eq_false, implies_true, Bool.not_not, Classical.not_not, go_sem, Int.reduceToNat, List.take_nil, Nat.zero_mul, Nat.reduceEqDiff, Nat.reduceAdd, Nat.reduceLT, Nat.reduceLeDiff, Nat.reduceMul, ↓reduceIte, reduceCtorEq]
  refine Fin.drop (Closed_set (Closed_set hC (encInt.row_flat _)) (encInt.row_flat _)) (by simp) rfl hk
theorem laws_markMixedRun_len {σ : List AB} {a b cx cy rx ry lx ly : Nat} {s : Int} {X Y : List Int} {k : Int} (hx : X.length = lx) (hy : Y.length = ly) (ha : σ[a]? = some (.rw ty_int (encInt.row X) rx)) (hb : σ[b]? = some (.rw ty_int (encInt.row Y) ry)) (hab : a ≠ b) (l1 : lx ≤ 1000000) (l2 : ly ≤ 1000000) (hk0 : 0 ≤ k ∧ k ≤ 1000000000)
    {K : AV → List AB → Prop} (hk : K (.i .i64 (k + lx + ly)) ((σ.set a (.rw ty_int (encInt.row (marked k X lx)) rx)).set b (.rw ty_int (encInt.row (marked (k + lx) Y ly)) ry))) :
    CallWp Try.prog n_laws_markMixedRun [.agg [.sl a 0 lx cx, .sl b 0 ly cy, .i .i64 s], .i .i64 k] σ K := by
  subst hx; subst hy
  exact laws_markMixedRun_ ha hb hab l1 l2 hk0 hk
theorem laws_markMixedRun_nil {s : Int} {σ : List AB} {k : Int} {K : AV → List AB → Prop} (hk : K (.i .i64 k) σ) : CallWp Try.prog n_laws_markMixedRun [.agg [.sn, .sn, .i .i64 s], .i .i64 k] σ K := by
  refine callC_laws_markMixedRun (by simp) fun hC hA => ?_
  simp only [c_laws_markMixedRun, List.append_assoc, at_new, at_new0, set_new, set_new0, not_true_eq_false, not_false_eq_true, decide_true, decide_false, Bool.not_true, Bool.not_false, false_implies, true_implies, and_true, true_and, Bool.false_eq_true, Bool.true_eq_false, implies_true, Bool.not_not, Classical.not_not, go_sem, Int.reduceToNat, List.take_nil, Nat.zero_mul, Nat.reduceEqDiff, Nat.reduceAdd, Nat.reduceLT, Nat.reduceLeDiff, Nat.reduceMul, ↓reduceIte, reduceCtorEq]
  refine laws_markIntS_nil ?_
  simp only [List.append_assoc, at_new, at_new0, set_new, set_new0, not_true_eq_false, not_false_eq_true, decide_true, decide_false, Bool.not_true, Bool.not_false, false_implies, true_implies, and_true, true_and, Bool.false_eq_true, Bool.true_eq_false, implies_true, Bool.not_not, Classical.not_not, go_sem, Int.reduceToNat, List.take_nil, Nat.zero_mul, Nat.reduceEqDiff, Nat.reduceAdd, Nat.reduceLT, Nat.reduceLeDiff, Nat.reduceMul, ↓reduceIte, reduceCtorEq]
  refine laws_markIntS_nil ?_
  simp only [List.append_assoc, at_new, at_new0, set_new, set_new0, not_true_eq_false, not_false_eq_true, decide_true, decide_false, Bool.not_true, Bool.not_false, false_implies, true_implies, and_true, true_and, Bool.false_eq_true, Bool.true_eq_false, implies_true, Bool.not_not, Classical.not_not, go_sem, Int.reduceToNat, List.take_nil, Nat.zero_mul, Nat.reduceEqDiff, Nat.reduceAdd, Nat.reduceLT, Nat.reduceLeDiff, Nat.reduceMul, ↓reduceIte, reduceCtorEq]
  exact Fin.drop hC (Nat.le_refl _) rfl hk
end Go.Proofs.Ytmphblbpofnpaaa
