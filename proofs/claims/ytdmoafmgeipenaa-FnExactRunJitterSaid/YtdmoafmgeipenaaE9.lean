/- Contracts: schedules compared, marked and held. -/
import Derived.Test.YtdmoafmgeipenaaS4
import Derived.Test.YtdmoafmgeipenaaC2
import Derived.Test.YtdmoafmgeipenaaC7
namespace Go.Proofs.Ytdmoafmgeipenaa
open Go.Abs Go.Ds
set_option linter.unusedSimpArgs false
set_option linter.unusedVariables false
set_option maxRecDepth 20000

theorem laws_eqSchedule_ {σ : List AB} {x1 y1 x2 y2 : AV} {X1 Y1 X2 Y2 : List Int} (h1 : Rd encInt σ x1 X1) (h2 : Rd encInt σ y1 Y1) (h3 : Rd encInt σ x2 X2) (h4 : Rd encInt σ y2 Y2) (l1 : X1.length ≤ 1000000) (l2 : Y1.length ≤ 1000000)
    {K : AV → List AB → Prop} (hk : K (.b (decide (X1 = X2 ∧ Y1 = Y2))) σ) : CallWp Try.prog n_laws_eqSchedule [.agg [x1, y1], .agg [x2, y2]] σ K := by
  refine callC_laws_eqSchedule (by simp) fun hC hA => ?_
  have d1 := h1.data
  have d2 := h2.data
  have d3 := h3.data
  have d4 := h4.data
  simp only [c_laws_eqSchedule, List.append_assoc, at_new, at_new0, set_new, set_new0, d1, d2, d3, d4, not_true_eq_false, not_false_eq_true, decide_true, decide_false, Bool.not_true, Bool.not_false, false_implies, true_implies, and_true, true_and, Bool.false_eq_true, Bool.true_eq_false, implies_true, Bool.not_not, Classical.not_not, go_sem, Int.reduceToNat, List.take_nil, Nat.zero_mul, Nat.reduceEqDiff, Nat.reduceAdd, Nat.reduceLT, Nat.reduceLeDiff, Nat.reduceMul, ↓reduceIte, reduceCtorEq]
  have go : ∀ {τ : List AB} {v u : AV} {L M : List Int}, Rd encInt σ v L → Rd encInt σ u M → L.length ≤ 1000000 → ∀ {K : AV → List AB → Prop}, K (.b (decide (L = M))) (σ ++ τ) → CallWp Try.prog n_laws_eqIntS [v, u] (σ ++ τ) K := fun a1 a2 a3 K hk => laws_eqIntS_ (by omega) a1.app a2.app hk
  refine go h1 h3 l1 ?_
  simp only [List.append_assoc, at_new, at_new0, set_new, set_new0, d1, d2, d3, d4, not_true_eq_false, not_false_eq_true, decide_true, decide_false, Bool.not_true, Bool.not_false, false_implies, true_implies, and_true, true_and, Bool.false_eq_true, Bool.true_eq_false, implies_true, Bool.not_not, Classical.not_not, go_sem, Int.reduceToNat, List.take_nil, Nat.zero_mul, Nat.reduceEqDiff, Nat.reduceAdd, Nat.reduceLT, Nat.reduceLeDiff, Nat.reduceMul, ↓reduceIte, reduceCtorEq]
  refine ⟨fun e => ?_, fun e => ?_⟩
  · rw [show decide (X1 = X2 ∧ Y1 = Y2) = false from decide_eq_false fun h => e h.1] at hk
    exact Fin.drop hC (Nat.le_refl _) rfl hk
  · refine go h2 h4 l2 ?_
    simp only [List.append_assoc, at_new, at_new0, set_new, set_new0, d1, d2, d3, d4, not_true_eq_false, not_false_eq_true, decide_true, decide_false, Bool.not_true, Bool.not_false, false_implies, true_implies, and_true, true_and, Bool.false_eq_true, Bool.true_eq_false, implies_true, Bool.not_not, Classical.not_not, go_sem, Int.reduceToNat, List.take_nil, Nat.zero_mul, Nat.reduceEqDiff, Nat.reduceAdd, Nat.reduceLT, Nat.reduceLeDiff, Nat.reduceMul, ↓reduceIte, reduceCtorEq]
    refine ⟨fun e2 => ?_, fun e2 => ?_⟩
    · rw [show decide (X1 = X2 ∧ Y1 = Y2) = false from decide_eq_false fun h => e2 h.2] at hk
      exact Fin.drop hC (Nat.le_refl _) rfl hk
    · rw [show decide (X1 = X2 ∧ Y1 = Y2) = true from decide_eq_true ⟨e, e2⟩] at hk
      exact Fin.drop hC (Nat.le_refl _) rfl hk

theorem laws_heldSchedule_ {σ : List AB} {x y : AV} {X Y : List Int} {k : Int} (h1 : Rd encInt σ x X) (h2 : Rd encInt σ y Y) (l1 : X.length ≤ 1000000) (l2 : Y.length ≤ 1000000) (hk0 : 0 ≤ k ∧ k ≤ 1000000000) (r1 : isRun k X) (r2 : isRun (k + X.length) Y)
    {K : AV → List AB → Prop} (hk : K (.i .i64 (k + X.length + Y.length)) σ) : CallWp Try.prog n_laws_heldSchedule [.agg [x, y], .i .i64 k] σ K := by
  refine callC_laws_heldSchedule (by simp) fun hC hA => ?_
  have d1 := h1.data
  have d2 := h2.data
  simp only [c_laws_heldSchedule, List.append_assoc, at_new, at_new0, set_new, set_new0, d1, d2, not_true_eq_false, not_false_eq_true, decide_true, decide_false, Bool.not_true, Bool.not_false, false_implies, true_implies, and_true, true_and, Bool.false_eq_true, Bool.true_eq_false, implies_true, Bool.not_not, Classical.not_not, go_sem, Int.reduceToNat, List.take_nil, Nat.zero_mul, Nat.reduceEqDiff, Nat.reduceAdd, Nat.reduceLT, Nat.reduceLeDiff, Nat.reduceMul, ↓reduceIte, reduceCtorEq]
  refine laws_heldIntS_ (L := X) (by omega) (by omega) r1 h1.app ?_
  simp only [List.append_assoc, at_new, at_new0, set_new, set_new0, d1, d2, not_true_eq_false, not_false_eq_true, decide_true, decide_false, Bool.not_true, Bool.not_false, false_implies, true_implies, and_true, true_and, Bool.false_eq_true, Bool.true_eq_false, implies_true, Bool.not_not, Classical.not_not, go_sem, Int.reduceToNat, List.take_nil, Nat.zero_mul, Nat.reduceEqDiff, Nat.reduceAdd, Nat.reduceLT, Nat.reduceLeDiff, Nat.reduceMul, ↓reduceIte, reduceCtorEq]
  refine ⟨fun h => absurd h (by omega), fun _ => ?_⟩
  refine laws_heldIntS_ (L := Y) (by omega) (by omega) r2 h2.app ?_
  simp only [List.append_assoc, at_new, at_new0, set_new, set_new0, d1, d2, not_true_eq_false, not_false_eq_true, decide_true, decide_false, Bool.not_true, Bool.not_false, false_implies, true_implies, and_true, true_and, Bool.false_eq_true, Bool.true_eq_false, implies_true, Bool.not_not, Classical.not_not, go_sem, Int.reduceToNat, List.take_nil, Nat.zero_mul, Nat.reduceEqDiff, Nat.reduceAdd, Nat.reduceLT, Nat.reduceLeDiff, Nat.reduceMul, ↓reduceIte, reduceCtorEq]
  refine ⟨fun h => absurd h (by omega), fun _ => ?_⟩
  exact Fin.drop hC (Nat.le_refl _) rfl hk

theorem Closed_set {σ : List AB} (h : Closed σ) {n : Nat} {ty : TypeId} {row : List AV} {r : Nat} (hr : row.all flat = true) : Closed (σ.set n (.rw ty row r)) := by
  intro m B hB
  rw [List.length_set]
  rw [List.getElem?_set] at hB
  split at hB
  · split at hB
    · cases hB
      exact all_flat hr
    · cases hB
  · exact h m B hB

theorem laws_markSchedule_ {σ : List AB} {a b cx cy rx ry : Nat} {X Y : List Int} {k : Int} (ha : σ[a]? = some (.rw ty_int (encInt.row X) rx)) (hb : σ[b]? = some (.rw ty_int (encInt.row Y) ry)) (hab : a ≠ b) (l1 : X.length ≤ 1000000) (l2 : Y.length ≤ 1000000) (hk0 : 0 ≤ k ∧ k ≤ 1000000000)
    {K : AV → List AB → Prop} (hk : K (.i .i64 (k + X.length + Y.length)) ((σ.set a (.rw ty_int (encInt.row (marked k X X.length)) rx)).set b (.rw ty_int (encInt.row (marked (k + X.length) Y Y.length)) ry))) :
    CallWp Try.prog n_laws_markSchedule [.agg [.sl a 0 X.length cx, .sl b 0 Y.length cy], .i .i64 k] σ K := by
  have la := (List.getElem?_eq_some_iff.1 ha).1
  have lb := (List.getElem?_eq_some_iff.1 hb).1
  refine callC_laws_markSchedule (by simp) fun hC hA => ?_
  simp only [c_laws_markSchedule, List.append_assoc, at_new, at_new0, set_new, set_new0, not_true_eq_false, not_false_eq_true, decide_true, decide_false, Bool.not_true, Bool.not_false, false_implies, true_implies, and_true, true_and, Bool.false_eq_true, Bool.true_eq_false, implies_true, Bool.not_not, Classical.not_not, go_sem, Int.reduceToNat, List.take_nil, Nat.zero_mul, Nat.reduceEqDiff, Nat.reduceAdd, Nat.reduceLT, Nat.reduceLeDiff, Nat.reduceMul, ↓reduceIte, reduceCtorEq]
  refine laws_markIntS_ (L := X) (by omega) (by omega) (at_old ha _) ?_
  rw [set_old la]
  have e1 : σ.length = (σ.set a (.rw ty_int (encInt.row (marked k X X.length)) rx)).length := by simp
  simp only [e1, at_new, at_new0, set_new, set_new0, not_true_eq_false, not_false_eq_true, decide_true, decide_false, Bool.not_true, Bool.not_false, false_implies, true_implies, and_true, true_and, Bool.false_eq_true, Bool.true_eq_false, implies_true, Bool.not_not, Classical.not_not, go_sem, Int.reduceToNat, List.take_nil, Nat.zero_mul, Nat.reduceEqDiff, Nat.reduceAdd, Nat.reduceLT, Nat.reduceLeDiff, Nat.reduceMul, ↓reduceIte, reduceCtorEq]
  have hb' : (σ.set a (.rw ty_int (encInt.row (marked k X X.length)) rx))[b]? = some (.rw ty_int (encInt.row Y) ry) := by
    rw [List.getElem?_set, if_neg hab]; exact hb
  refine laws_markIntS_ (L := Y) (by omega) (by omega) (at_old hb' _) ?_
  rw [set_old (by simpa using lb)]
  simp only [not_true_eq_false, not_false_eq_true, decide_true, decide_false, Bool.not_true, Bool.not_false, false_implies, true_implies, and_true, true_and, Bool.false_eq_true, Bool.true_eq_false, implies_true, Bool.not_not, Classical.not_not, go_sem, Int.reduceToNat, List.take_nil, Nat.zero_mul, Nat.reduceEqDiff, Nat.reduceAdd, Nat.reduceLT, Nat.reduceLeDiff, Nat.reduceMul, ↓reduceIte, reduceCtorEq]
  refine Fin.drop (Closed_set (Closed_set hC (encInt.row_flat _)) (encInt.row_flat _)) (by simp) rfl hk

theorem laws_markSchedule_len {σ : List AB} {a b cx cy rx ry lx ly : Nat} {X Y : List Int} {k : Int} (hx : X.length = lx) (hy : Y.length = ly) (ha : σ[a]? = some (.rw ty_int (encInt.row X) rx)) (hb : σ[b]? = some (.rw ty_int (encInt.row Y) ry)) (hab : a ≠ b) (l1 : lx ≤ 1000000) (l2 : ly ≤ 1000000) (hk0 : 0 ≤ k ∧ k ≤ 1000000000)
    {K : AV → List AB → Prop} (hk : K (.i .i64 (k + lx + ly)) ((σ.set a (.rw ty_int (encInt.row (marked k X lx)) rx)).set b (.rw ty_int (encInt.row (marked (k + lx) Y ly)) ry))) :
    CallWp Try.prog n_laws_markSchedule [.agg [.sl a 0 lx cx, .sl b 0 ly cy], .i .i64 k] σ K := by
  subst hx; subst hy
  exact laws_markSchedule_ ha hb hab l1 l2 hk0 hk

theorem laws_markSchedule_nil {σ : List AB} {k : Int} {K : AV → List AB → Prop} (hk : K (.i .i64 k) σ) : CallWp Try.prog n_laws_markSchedule [.agg [.sn, .sn], .i .i64 k] σ K := by
  refine callC_laws_markSchedule (by simp) fun hC hA => ?_
  simp only [c_laws_markSchedule, List.append_assoc, at_new, at_new0, set_new, set_new0, not_true_eq_false, not_false_eq_true, decide_true, decide_false, Bool.not_true, Bool.not_false, false_implies, true_implies, and_true, true_and, Bool.false_eq_true, Bool.true_eq_false, implies_true, Bool.not_not, Classical.not_not, go_sem, Int.reduceToNat, List.take_nil, Nat.zero_mul, Nat.reduceEqDiff, Nat.reduceAdd, Nat.reduceLT, Nat.reduceLeDiff, Nat.reduceMul, ↓reduceIte, reduceCtorEq]
  refine laws_markIntS_nil ?_
  simp only [List.append_assoc, at_new, at_new0, set_new, set_new0, not_true_eq_false, not_false_eq_true, decide_true, decide_false, Bool.not_true, Bool.not_false, false_implies, true_implies, and_true, true_and, Bool.false_eq_true, Bool.true_eq_false, implies_true, Bool.not_not, Classical.not_not, go_sem, Int.reduceToNat, List.take_nil, Nat.zero_mul, Nat.reduceEqDiff, Nat.reduceAdd, Nat.reduceLT, Nat.reduceLeDiff, Nat.reduceMul, ↓reduceIte, reduceCtorEq]
  refine laws_markIntS_nil ?_
  simp only [List.append_assoc, at_new, at_new0, set_new, set_new0, not_true_eq_false, not_false_eq_true, decide_true, decide_false, Bool.not_true, Bool.not_false, false_implies, true_implies, and_true, true_and, Bool.false_eq_true, Bool.true_eq_false, implies_true, Bool.not_not, Classical.not_not, go_sem, Int.reduceToNat, List.take_nil, Nat.zero_mul, Nat.reduceEqDiff, Nat.reduceAdd, Nat.reduceLT, Nat.reduceLeDiff, Nat.reduceMul, ↓reduceIte, reduceCtorEq]
  exact Fin.drop hC (Nat.le_refl _) rfl hk

def markedJ (k : Int) (L : List Job) (m : Nat) : List Job := (List.range m).map (fun j : Nat => ⟨k + 4 * (j : Int), k + 4 * (j : Int) + 1, k + 4 * (j : Int) + 2, k + 4 * (j : Int) + 3⟩) ++ L.drop m
theorem markedJ_length (k : Int) (L : List Job) (m : Nat) (h : m ≤ L.length) : (markedJ k L m).length = L.length := by simp [markedJ]; omega
theorem markedJ_zero (k : Int) (L : List Job) : markedJ k L 0 = L := by simp [markedJ]
theorem markedJ_set (k : Int) (L : List Job) (m : Nat) (h : m < L.length) : (markedJ k L m).set m ⟨k + 4 * m, k + 4 * m + 1, k + 4 * m + 2, k + 4 * m + 3⟩ = markedJ k L (m + 1) := by
  unfold markedJ
  rw [List.set_append_right _ _ (by simp), List.range_succ, List.map_append, List.append_assoc]
  congr 1
  simp only [List.length_map, List.length_range, Nat.sub_self, List.map_cons, List.map_nil]
  rw [List.drop_eq_getElem_cons h]
  rfl
theorem spl4 (z : List AV) (o : Nat) (a b c d : AV) : spl (spl (spl (spl z o [a]) (o + 1) [b]) (o + 2) [c]) (o + 3) [d] = spl z o [a, b, c, d] := rfl

theorem laws_markJobS0 (L : List Job) (k : Int) (hs : L.length ≤ 1099511627776) (hk : 0 ≤ k ∧ k ≤ 1099511627776) (c r : Nat) : CallWp Try.prog n_laws_markJobS [.sl 0 0 L.length c, .i .i64 k] [.rw ty_impl_Job (encJob.row L) r]
    (fun x σ => x = .i .i64 (k + 4 * L.length) ∧ σ = [.rw ty_impl_Job (encJob.row (markedJ k L L.length)) r]) := by
  refine call_laws_markJobS (by simp) ?_
  simp only [c_laws_markJobS, go_sem, Int.reduceToNat, List.take_nil, Nat.zero_mul, Nat.reduceEqDiff, Nat.reduceAdd, Nat.reduceLT, Nat.reduceLeDiff, Nat.reduceMul, ↓reduceIte, reduceCtorEq]
  refine loop_count L.length (fun m => ⟨[(0, .sl 0 0 L.length c), (1, .i .i64 (k + 4 * m)), (5, .i .i64 m)], [.rw ty_impl_Job (encJob.row (markedJ k L m)) r]⟩) (fun _ => True) trivial ?_ fun m hm _ => ?_
  · rw [markedJ_zero]
    exact Wk.pick [0]
  simp only [l0_laws_markJobS, go_sem, Int.reduceToNat, List.take_nil, Nat.zero_mul, Nat.reduceEqDiff, Nat.reduceAdd, Nat.reduceLT, Nat.reduceLeDiff, Nat.reduceMul, ↓reduceIte, reduceCtorEq, lenT, rdT0, rdT1, rdT2, winT, takeT, appT, splT, splI, winI, lenI, rdI, takeI, appI]
  refine ⟨fun h => ?_, fun h => ?_⟩
  · have hm' : m < (markedJ k L m).length := by rw [markedJ_length _ _ _ hm]; exact h
    simp only [go_sem, Int.reduceToNat, List.take_nil, Nat.zero_mul, Nat.reduceEqDiff, Nat.reduceAdd, Nat.reduceLT, Nat.reduceLeDiff, Nat.reduceMul, ↓reduceIte, reduceCtorEq, lenJ, len1, h, markedJ_length _ _ _ hm]
    rw [spl4, splJ hm', show k + 4 * (m : Int) + 1 + 1 = k + 4 * m + 2 from by omega, show k + 4 * (m : Int) + 2 + 1 = k + 4 * m + 3 from by omega, markedJ_set k L m h]
    repeat refine ⟨by omega, ?_⟩
    exact Wk.pick [0] (by simp [seesT, belowT, below1, below, sees, ren, ren1, renC, rnp, nat2, look_cons]; omega)
  · have e : m = L.length := by omega
    subst e
    exact Fin.plain ⟨rfl, rfl⟩

theorem laws_markJobS_ {L : List Job} {k : Int} (hs : L.length ≤ 1099511627776) (hk : 0 ≤ k ∧ k ≤ 1099511627776) {σ : List AB} {n c r : Nat} (h : σ[n]? = some (.rw ty_impl_Job (encJob.row L) r)) {K : AV → List AB → Prop} (hK : K (.i .i64 (k + 4 * L.length)) (σ.set n (.rw ty_impl_Job (encJob.row (markedJ k L L.length)) r))) :
    CallWp Try.prog n_laws_markJobS [.sl n 0 L.length c, .i .i64 k] σ K :=
  call_mut h (encJob.row_flat _) (encJob.row_flat _) (laws_markJobS0 L k hs hk c r) rfl rfl hK
end Go.Proofs.Ytdmoafmgeipenaa
