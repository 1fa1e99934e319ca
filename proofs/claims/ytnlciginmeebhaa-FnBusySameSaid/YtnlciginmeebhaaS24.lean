/- Contracts: deadline-monotonic priorities, of the program: that they are an order. -/
import Derived.Test.YtnlciginmeebhaaC2
import Derived.Test.YtnlciginmeebhaaAbsY
import Derived.Test.YtnlciginmeebhaaLowT
namespace Go.Proofs.Ytnlciginmeebhaa
open Go.Abs Go.Ds
set_option linter.unusedSimpArgs false
set_option linter.unusedVariables false
set_option maxRecDepth 20000
set_option maxHeartbeats 1000000

/-- The tasks in the order of the text. -/
def idxs (n : Nat) : List Int := (List.range n).map fun (i : Nat) => (i : Int)
theorem idxs_length (n : Nat) : (idxs n).length = n := by simp [idxs]
theorem idxs_get {n k : Nat} (h : k < (idxs n).length) : (idxs n)[k] = k := by simp [idxs]

theorem impl_indices0 (n : Nat) (hn : n ≤ 1000) {σ : List AB} {K : AV → List AB → Prop} (hk : K (.sl σ.length 0 n n) (σ ++ [.rw ty_int (encInt.row (idxs n)) n])) : CallWp Try.prog n_impl_indices [.i .i64 n] σ K := by
  refine call_impl_indices (by simp) ?_
  simp only [c_impl_indices, List.append_assoc, at_new, at_new0, set_new, set_new0, not_true_eq_false, not_false_eq_true, decide_true, decide_false, Bool.not_true, Bool.not_false, false_implies, true_implies, and_true, true_and, Bool.false_eq_true, Bool.true_eq_false, implies_true, Bool.not_not, Classical.not_not, go_sem, Int.reduceToNat, List.take_nil, Nat.zero_mul, Nat.reduceEqDiff, Nat.reduceAdd, Nat.reduceLT, Nat.reduceLeDiff, Nat.reduceMul, ↓reduceIte, reduceCtorEq]
  rw [show rep n [AV.i .i64 0] = encInt.row (List.replicate n 0) from encInt.rep 0 _]
  refine ⟨by omega, loop_intro (fun i : List Int × Nat => ⟨[(3, .sl σ.length 0 n n), (8, .i .i64 n), (9, .i .i64 i.2)], σ ++ [.rw ty_int (encInt.row i.1) n]⟩) (fun i => i.2 ≤ n ∧ i.1.length = n ∧ ∀ j (h : j < i.1.length), j < i.2 → i.1[j] = j) (fun i => n - i.2) (List.replicate n 0, 0) ⟨Nat.zero_le _, by simp, fun j h hj => absurd hj (by omega)⟩ (Wk.keep (by simp [look_cons])) ?_⟩
  rintro ⟨W, k⟩ ⟨hk1, hW, hJ⟩
  simp only at hk1 hW hJ
  simp only [l0_impl_indices, List.append_assoc, at_new, at_new0, set_new, set_new0, not_true_eq_false, not_false_eq_true, decide_true, decide_false, Bool.not_true, Bool.not_false, false_implies, true_implies, and_true, true_and, Bool.false_eq_true, Bool.true_eq_false, implies_true, Bool.not_not, Classical.not_not, go_sem, Int.reduceToNat, List.take_nil, Nat.zero_mul, Nat.reduceEqDiff, Nat.reduceAdd, Nat.reduceLT, Nat.reduceLeDiff, Nat.reduceMul, ↓reduceIte, reduceCtorEq]
  refine ⟨fun hlt => ⟨hlt, by rw [lenI]; omega, by omega, (W.set k k, k + 1), ⟨⟨by simp only; omega, by simp only [List.length_set]; exact hW, fun j h hj => ?_⟩, by simp only; omega⟩, ?_⟩, fun hge => ?_⟩
  · simp only [List.getElem_set]
    by_cases e : k = j
    · rw [if_pos e, e]
    · rw [if_neg e]
      rw [List.length_set] at h
      simp only at hj
      exact hJ j h (by omega)
  · rw [splI (by omega)]
    exact Wk.keep (by simp [look_cons])
  · have e : W = idxs n := by
      apply List.ext_getElem
      · rw [hW, idxs_length]
      · intro j h1 h2
        rw [hJ j h1 (by omega), idxs_get h2]
    rw [e]
    exact Fin.plain hk

/-- The comparison. -/
theorem impl_DM1_ {S : List Task} {σ : List AB} {q : Nat} {c : Nat} {x y : Int} (hS : setOk S) (hq : cellsOf σ q = some [.sl 0 0 S.length c]) (h0 : cellsOf σ 0 = some (encTask.row S)) (hx : 0 ≤ x ∧ x < S.length) (hy : 0 ≤ y ∧ y < S.length) {K : AV → List AB → Prop} (hk : K (.i .i64 ((gT S x).D - (gT S y).D)) σ) :
    CallWp Try.prog n_impl_DeadlineMonotonic_1 [.i .i64 x, .i .i64 y, .p q 0] σ K := by
  obtain ⟨a, rfl⟩ := Int.eq_ofNat_of_zero_le hx.1
  obtain ⟨b, rfl⟩ := Int.eq_ofNat_of_zero_le hy.1
  have ha : a < S.length := by omega
  have hb : b < S.length := by omega
  have h1 := gT_ok hS hx.1 hx.2
  have h2 := gT_ok hS hy.1 hy.2
  unfold Task.ok at h1 h2
  refine call_impl_DeadlineMonotonic_1 (by simp) ?_
  rw [gT_nat ha, gT_nat hb] at hk
  rw [gT_nat ha] at h1
  rw [gT_nat hb] at h2
  simp only [c_impl_DeadlineMonotonic_1, onC_of hq, onC_of h0, rdT1 ha, rdT1 hb, lenT, not_true_eq_false, not_false_eq_true, decide_true, decide_false, Bool.not_true, Bool.not_false, false_implies, true_implies, and_true, true_and, Bool.false_eq_true, Bool.true_eq_false, implies_true, Bool.not_not, Classical.not_not, go_sem, Int.reduceToNat, List.take_nil, Nat.zero_mul, Nat.reduceEqDiff, Nat.reduceAdd, Nat.reduceLT, Nat.reduceLeDiff, Nat.reduceMul, ↓reduceIte, reduceCtorEq]
  exact ⟨ha, by omega, hb, by omega, by omega, Fin.plain hk⟩

/-- The heap of the sort. -/
def dmσ (S : List Task) (c r cap : Nat) (W : List Int) : List AB := [.ro (encTask.row S), .rw ty_sl_impl_Task [.sl 0 0 S.length c] r, .rw ty_int (encInt.row W) cap]

theorem insertion0 (S : List Task) (hS : setOk S) (c r cap cW : Nat) (W : List Int) (hW : W.length = S.length) (hm : ∀ x ∈ W, 0 ≤ x ∧ x < (S.length : Int)) {K : AV → List AB → Prop} (hk : ∀ W' : List Int, W'.Perm W → K (.tup []) (dmσ S c r cap W')) :
    CallWp Try.prog n_slices_insertionSortCmpFunc_int [.sl 2 0 S.length cW, .i .i64 0, .i .i64 S.length, .fn n_impl_DeadlineMonotonic_1 [] [(1, 0)]] (dmσ S c r cap W) K := by
  have h5 := hS.1
  unfold dmσ at hk ⊢
  refine call_slices_insertionSortCmpFunc_int (by simp) ?_
  simp only [c_slices_insertionSortCmpFunc_int, not_true_eq_false, not_false_eq_true, decide_true, decide_false, Bool.not_true, Bool.not_false, false_implies, true_implies, and_true, true_and, Bool.false_eq_true, Bool.true_eq_false, implies_true, Bool.not_not, Classical.not_not, go_sem, Int.reduceToNat, List.take_nil, Nat.zero_mul, Nat.reduceEqDiff, Nat.reduceAdd, Nat.reduceLT, Nat.reduceLeDiff, Nat.reduceMul, ↓reduceIte, reduceCtorEq]
  refine ⟨by omega, loop_intro (fun i : Nat × List Int => ⟨[(0, .sl 2 0 S.length cW), (1, .i .i64 0), (2, .i .i64 S.length), (3, .fn n_impl_DeadlineMonotonic_1 [] [(1, 0)]), (8, .i .i64 i.1)], [.ro (encTask.row S), .rw ty_sl_impl_Task [.sl 0 0 S.length c] r, .rw ty_int (encInt.row i.2) cap]⟩) (fun i => i.1 ≤ S.length + 1 ∧ i.2.Perm W) (fun i => S.length + 1 - i.1) (1, W) ⟨by simp only; omega, .refl _⟩ (Wk.keep (by simp [look_cons])) ?_⟩
  rintro ⟨i, W1⟩ ⟨hi, hp1⟩
  simp only at hi hp1
  simp only [l1_slices_insertionSortCmpFunc_int, not_true_eq_false, not_false_eq_true, decide_true, decide_false, Bool.not_true, Bool.not_false, false_implies, true_implies, and_true, true_and, Bool.false_eq_true, Bool.true_eq_false, implies_true, Bool.not_not, Classical.not_not, go_sem, Int.reduceToNat, List.take_nil, Nat.zero_mul, Nat.reduceEqDiff, Nat.reduceAdd, Nat.reduceLT, Nat.reduceLeDiff, Nat.reduceMul, ↓reduceIte, reduceCtorEq]
  refine ⟨fun hlt => ?_, fun hge => ?_⟩
  · refine loop_intro (fun j : Nat × List Int => ⟨[(0, .sl 2 0 S.length cW), (1, .i .i64 0), (2, .i .i64 S.length), (3, .fn n_impl_DeadlineMonotonic_1 [] [(1, 0)]), (8, .i .i64 i), (9, .i .i64 j.1)], [.ro (encTask.row S), .rw ty_sl_impl_Task [.sl 0 0 S.length c] r, .rw ty_int (encInt.row j.2) cap]⟩) (fun j => j.1 ≤ i ∧ j.2.Perm W) (fun j => j.1) (i, W1) ⟨Nat.le_refl _, hp1⟩ (Wk.keep (by simp [look_cons])) ?_
    rintro ⟨j, W2⟩ ⟨hj, hp2⟩
    simp only at hj hp2
    have hl2 : W2.length = S.length := by rw [hp2.length_eq, hW]
    have hm2 : ∀ x ∈ W2, 0 ≤ x ∧ x < (S.length : Int) := fun x hx => hm x (hp2.mem_iff.1 hx)
    simp only [l0_slices_insertionSortCmpFunc_int, not_true_eq_false, not_false_eq_true, decide_true, decide_false, Bool.not_true, Bool.not_false, false_implies, true_implies, and_true, true_and, Bool.false_eq_true, Bool.true_eq_false, implies_true, Bool.not_not, Classical.not_not, go_sem, Int.reduceToNat, List.take_nil, Nat.zero_mul, Nat.reduceEqDiff, Nat.reduceAdd, Nat.reduceLT, Nat.reduceLeDiff, Nat.reduceMul, ↓reduceIte, reduceCtorEq]
    refine ⟨fun hj0 => ?_, fun hj0 => ?_⟩
    · have hj1 : j - 1 < W2.length := by omega
      have hj2 : j < W2.length := by omega
      have hc : ((j : Int) - 1).toNat = j - 1 := by omega
      have m1 := hm2 _ (List.getElem_mem hj1)
      have m2 := hm2 _ (List.getElem_mem hj2)
      have hsl : ∀ v : Int, (W2.set j v).length = S.length := fun v => by rw [List.length_set]; exact hl2
      have hj3 : ∀ v : Int, j - 1 < (W2.set j v).length := fun v => by rw [hsl]; omega
      simp only [hc, rdI hj1, rdI hj2, lenI, hl2, not_true_eq_false, not_false_eq_true, decide_true, decide_false, Bool.not_true, Bool.not_false, false_implies, true_implies, and_true, true_and, Bool.false_eq_true, Bool.true_eq_false, implies_true, Bool.not_not, Classical.not_not, go_sem, Int.reduceToNat, List.take_nil, Nat.zero_mul, Nat.reduceEqDiff, Nat.reduceAdd, Nat.reduceLT, Nat.reduceLeDiff, Nat.reduceMul, ↓reduceIte, reduceCtorEq]
      refine ⟨by omega, by omega, by omega, by omega, by omega, onCall.by (impl_DM1_ hS (c := c) rfl rfl m2 m1 ⟨rfl, rfl⟩) ?_⟩
      simp only [hc, rdI hj1, rdI hj2, splI hj2, splI (hj3 _), lenI, hl2, hsl, not_true_eq_false, not_false_eq_true, decide_true, decide_false, Bool.not_true, Bool.not_false, false_implies, true_implies, and_true, true_and, Bool.false_eq_true, Bool.true_eq_false, implies_true, Bool.not_not, Classical.not_not, go_sem, Int.reduceToNat, List.take_nil, Nat.zero_mul, Nat.reduceEqDiff, Nat.reduceAdd, Nat.reduceLT, Nat.reduceLeDiff, Nat.reduceMul, ↓reduceIte, reduceCtorEq]
      refine ⟨fun hlt2 => ?_, fun hge2 => ?_⟩
      · repeat refine ⟨by omega, ?_⟩
        refine ⟨(j - 1, (W2.set j W2[j - 1]).set (j - 1) W2[j]), ⟨⟨by simp only; omega, (List.set_set_perm hj2 hj1).trans hp2⟩, by simp only; omega⟩, ?_⟩
        rw [show (j : Int) - 1 = ((j - 1 : Nat) : Int) by omega]
        exact Wk.keep (by simp [look_cons])
      · exact ⟨by omega, (i + 1, W2), ⟨⟨by simp only; omega, hp2⟩, by simp only; omega⟩, Wk.keep (by simp [look_cons])⟩
    · exact ⟨by omega, (i + 1, W2), ⟨⟨by simp only; omega, hp2⟩, by simp only; omega⟩, Wk.keep (by simp [look_cons])⟩
  · exact Fin.plain (hk W1 hp1)

theorem stable0 (S : List Task) (hS : setOk S) (c r cap cW : Nat) (W : List Int) (hW : W.length = S.length) (hm : ∀ x ∈ W, 0 ≤ x ∧ x < (S.length : Int)) {K : AV → List AB → Prop} (hk : ∀ W' : List Int, W'.Perm W → K (.tup []) (dmσ S c r cap W')) :
    CallWp Try.prog n_slices_stableCmpFunc_int [.sl 2 0 S.length cW, .i .i64 S.length, .fn n_impl_DeadlineMonotonic_1 [] [(1, 0)]] (dmσ S c r cap W) K := by
  have h5 := hS.1
  refine call_slices_stableCmpFunc_int (by simp) ?_
  simp only [c_slices_stableCmpFunc_int, not_true_eq_false, not_false_eq_true, decide_true, decide_false, Bool.not_true, Bool.not_false, false_implies, true_implies, and_true, true_and, Bool.false_eq_true, Bool.true_eq_false, implies_true, Bool.not_not, Classical.not_not, go_sem, Int.reduceToNat, List.take_nil, Nat.zero_mul, Nat.reduceEqDiff, Nat.reduceAdd, Nat.reduceLT, Nat.reduceLeDiff, Nat.reduceMul, ↓reduceIte, reduceCtorEq]
  refine loop_count 0 (fun i => ⟨[(0, .sl 2 0 S.length cW), (1, .i .i64 S.length), (2, .fn n_impl_DeadlineMonotonic_1 [] [(1, 0)]), (6, .i .i64 20), (7, .i .i64 0), (8, .i .i64 20)], dmσ S c r cap W⟩) (fun _ => True) trivial (Wk.keep (by simp [look_cons])) fun i hi _ => ?_
  simp only [l2_slices_stableCmpFunc_int, not_true_eq_false, not_false_eq_true, decide_true, decide_false, Bool.not_true, Bool.not_false, false_implies, true_implies, and_true, true_and, Bool.false_eq_true, Bool.true_eq_false, implies_true, Bool.not_not, Classical.not_not, go_sem, Int.reduceToNat, List.take_nil, Nat.zero_mul, Nat.reduceEqDiff, Nat.reduceAdd, Nat.reduceLT, Nat.reduceLeDiff, Nat.reduceMul, ↓reduceIte, reduceCtorEq]
  refine ⟨fun h => absurd h (by omega), fun _ => ?_⟩
  refine insertion0 S hS c r cap cW W hW hm fun W' hp => ?_
  simp only [not_true_eq_false, not_false_eq_true, decide_true, decide_false, Bool.not_true, Bool.not_false, false_implies, true_implies, and_true, true_and, Bool.false_eq_true, Bool.true_eq_false, implies_true, Bool.not_not, Classical.not_not, go_sem, Int.reduceToNat, List.take_nil, Nat.zero_mul, Nat.reduceEqDiff, Nat.reduceAdd, Nat.reduceLT, Nat.reduceLeDiff, Nat.reduceMul, ↓reduceIte, reduceCtorEq]
  refine loop_count 0 (fun i => ⟨[(0, .sl 2 0 S.length cW), (1, .i .i64 S.length), (2, .fn n_impl_DeadlineMonotonic_1 [] [(1, 0)]), (6, .i .i64 20)], dmσ S c r cap W'⟩) (fun _ => True) trivial (Wk.keep (by simp [look_cons])) fun i hi _ => ?_
  simp only [l1_slices_stableCmpFunc_int, not_true_eq_false, not_false_eq_true, decide_true, decide_false, Bool.not_true, Bool.not_false, false_implies, true_implies, and_true, true_and, Bool.false_eq_true, Bool.true_eq_false, implies_true, Bool.not_not, Classical.not_not, go_sem, Int.reduceToNat, List.take_nil, Nat.zero_mul, Nat.reduceEqDiff, Nat.reduceAdd, Nat.reduceLT, Nat.reduceLeDiff, Nat.reduceMul, ↓reduceIte, reduceCtorEq]
  refine ⟨fun h => absurd h (by omega), fun _ => ?_⟩
  exact Fin.plain (hk W' hp)

theorem sortStable0 (S : List Task) (hS : setOk S) (c r cap cW : Nat) (W : List Int) (hW : W.length = S.length) (hm : ∀ x ∈ W, 0 ≤ x ∧ x < (S.length : Int)) {K : AV → List AB → Prop} (hk : ∀ W' : List Int, W'.Perm W → K (.tup []) (dmσ S c r cap W')) :
    CallWp Try.prog n_slices_SortStableFunc_int [.sl 2 0 S.length cW, .fn n_impl_DeadlineMonotonic_1 [] [(1, 0)]] (dmσ S c r cap W) K := by
  refine call_slices_SortStableFunc_int (by simp) ?_
  simp only [c_slices_SortStableFunc_int, not_true_eq_false, not_false_eq_true, decide_true, decide_false, Bool.not_true, Bool.not_false, false_implies, true_implies, and_true, true_and, Bool.false_eq_true, Bool.true_eq_false, implies_true, Bool.not_not, Classical.not_not, go_sem, Int.reduceToNat, List.take_nil, Nat.zero_mul, Nat.reduceEqDiff, Nat.reduceAdd, Nat.reduceLT, Nat.reduceLeDiff, Nat.reduceMul, ↓reduceIte, reduceCtorEq]
  refine stable0 S hS c r cap cW W hW hm fun W' hp => ?_
  simp only [not_true_eq_false, not_false_eq_true, decide_true, decide_false, Bool.not_true, Bool.not_false, false_implies, true_implies, and_true, true_and, Bool.false_eq_true, Bool.true_eq_false, implies_true, Bool.not_not, Classical.not_not, go_sem, Int.reduceToNat, List.take_nil, Nat.zero_mul, Nat.reduceEqDiff, Nat.reduceAdd, Nat.reduceLT, Nat.reduceLeDiff, Nat.reduceMul, ↓reduceIte, reduceCtorEq]
  exact Fin.plain (hk W' hp)

theorem idxs_ok (n : Nat) : (idxs n).Nodup ∧ ∀ x ∈ idxs n, 0 ≤ x ∧ x < (n : Int) := by
  constructor
  · rw [List.nodup_iff_pairwise_ne, List.pairwise_iff_getElem]
    intro i j hi hj hij
    rw [idxs_get, idxs_get]
    omega
  · intro x hx
    unfold idxs at hx
    rw [List.mem_map] at hx
    obtain ⟨i, hi, rfl⟩ := hx
    rw [List.mem_range] at hi
    omega
theorem perm_ord {S : List Task} (hS : setOk S) {W : List Int} (h : W.Perm (idxs S.length)) : ordOk S W :=
  ⟨hS, by rw [h.length_eq, idxs_length], fun k hk => (idxs_ok S.length).2 k (h.mem_iff.1 hk), h.nodup_iff.2 (idxs_ok S.length).1⟩

/-- What it answers: an order. -/
def DmP (N : Nat) (S : List Task) (x : AV) (τ : List AB) : Prop := (¬ setOk S ∧ x = .sn ∧ τ = []) ∨ (setOk S ∧ ∃ (O : List Int) (cap cc : Nat), ordOk S O ∧ x = .sl N 0 S.length cap ∧ τ = [.rw ty_int (encInt.row O) cc])
theorem DmP.fr {N : Nat} {S : List Task} {x : AV} {τ : List AB} (h : DmP N S x τ) : τ.all plainRw = true ∧ freshA N x = true := by
  rcases h with ⟨_, rfl, rfl⟩ | ⟨_, O, cap, cc, _, rfl, rfl⟩
  · exact ⟨rfl, rfl⟩
  · simp [plainRw, encInt.row_flat, freshA, fresh1A, freshC]

theorem impl_DeadlineMonotonic0 (S : List Task) (hs : S.length ≤ 1048576) (c : Nat) : CallWp Try.prog n_impl_DeadlineMonotonic [.sl 0 0 S.length c] [.ro (encTask.row S)] (fun x σ' => ∃ τ, σ' = [.ro (encTask.row S)] ++ τ ∧ DmP 1 S x τ) := by
  refine call_impl_DeadlineMonotonic (by simp) ?_
  simp only [c_impl_DeadlineMonotonic, not_true_eq_false, not_false_eq_true, decide_true, decide_false, Bool.not_true, Bool.not_false, false_implies, true_implies, and_true, true_and, Bool.false_eq_true, Bool.true_eq_false, implies_true, Bool.not_not, Classical.not_not, go_sem, Int.reduceToNat, List.take_nil, Nat.zero_mul, Nat.reduceEqDiff, Nat.reduceAdd, Nat.reduceLT, Nat.reduceLeDiff, Nat.reduceMul, ↓reduceIte, reduceCtorEq]
  refine impl_SetValid_ (L := S) (by omega) (Rd.own rfl) ?_
  simp only [not_true_eq_false, not_false_eq_true, decide_true, decide_false, Bool.not_true, Bool.not_false, false_implies, true_implies, and_true, true_and, Bool.false_eq_true, Bool.true_eq_false, implies_true, Bool.not_not, Classical.not_not, go_sem, Int.reduceToNat, List.take_nil, Nat.zero_mul, Nat.reduceEqDiff, Nat.reduceAdd, Nat.reduceLT, Nat.reduceLeDiff, Nat.reduceMul, ↓reduceIte, reduceCtorEq]
  refine ⟨fun hS => ?_, fun hS => ?_⟩
  · exact Fin.pick [0] .sn [.ro (encTask.row S)] ⟨[], rfl, .inl ⟨hS, rfl, rfl⟩⟩
  have h5 := hS.1
  refine impl_indices0 S.length (by omega) ?_
  simp only [not_true_eq_false, not_false_eq_true, decide_true, decide_false, Bool.not_true, Bool.not_false, false_implies, true_implies, and_true, true_and, Bool.false_eq_true, Bool.true_eq_false, implies_true, Bool.not_not, Classical.not_not, go_sem, Int.reduceToNat, List.take_nil, Nat.zero_mul, Nat.reduceEqDiff, Nat.reduceAdd, Nat.reduceLT, Nat.reduceLeDiff, Nat.reduceMul, ↓reduceIte, reduceCtorEq]
  refine sortStable0 S hS c 1 S.length S.length (idxs S.length) (idxs_length _) (idxs_ok _).2 fun W' hp => ?_
  simp only [dmσ, not_true_eq_false, not_false_eq_true, decide_true, decide_false, Bool.not_true, Bool.not_false, false_implies, true_implies, and_true, true_and, Bool.false_eq_true, Bool.true_eq_false, implies_true, Bool.not_not, Classical.not_not, go_sem, Int.reduceToNat, List.take_nil, Nat.zero_mul, Nat.reduceEqDiff, Nat.reduceAdd, Nat.reduceLT, Nat.reduceLeDiff, Nat.reduceMul, ↓reduceIte, reduceCtorEq]
  exact Fin.pick [0, 2] (.sl 1 0 S.length S.length) _ ⟨[.rw ty_int (encInt.row W') S.length], rfl, .inr ⟨hS, W', S.length, S.length, perm_ord hS hp, rfl, rfl⟩⟩
theorem impl_DeadlineMonotonic_ {S : List Task} (hs : S.length ≤ 1048576) {v : AV} {σ : List AB} (h : Rd encTask σ v S) {K : AV → List AB → Prop} (hn : ¬ setOk S → K .sn σ) (hy : ∀ O cap cc, ordOk S O → K (.sl σ.length 0 S.length cap) (σ ++ [.rw ty_int (encInt.row O) cc])) : CallWp Try.prog n_impl_DeadlineMonotonic [v] σ K := by
  refine call_news _ (rds1 h.r) (fun c => [.sl 0 0 S.length (c 0)]) (DmP 1 S) (fun c => impl_DeadlineMonotonic0 S hs (c 0)) (fun _ _ h => h.fr) (fun ν c h => ⟨h.1, trivial⟩) (fun _ => rfl) ?_
  rintro x τ (⟨hno, rfl, rfl⟩ | ⟨_, O, cap, cc, hO, rfl, rfl⟩)
  · rw [List.append_nil]; exact hn hno
  · exact hy O cap cc hO
end Go.Proofs.Ytnlciginmeebhaa
