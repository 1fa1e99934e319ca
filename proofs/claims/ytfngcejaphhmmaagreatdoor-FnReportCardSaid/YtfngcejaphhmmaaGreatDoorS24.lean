import Derived.Test.YtfngcejaphhmmaaGreatDoorC2
import Derived.Test.YtfngcejaphhmmaaGreatDoorAbsY
import Derived.Test.YtfngcejaphhmmaaGreatDoorLowT
namespace Go.Proofs.YtfngcejaphhmmaaGreatDoor
open Go.Abs Go.Ds
set_option linter.unusedSimpArgs false
set_option linter.unusedVariables false
set_option maxRecDepth 20000
set_option maxHeartbeats 1000000
def idxs (n : Nat) : List Int := (List.range n).map fun (i : Nat) => (i : Int)
theorem idxs_length (n : Nat) : (idxs n).length = n := by simp [idxs]
theorem idxs_get {n k : Nat} (h : k < (idxs n).length) : (idxs n)[k] = k := by simp [idxs]
theorem impl_indices0 (n : Nat) (hn : n ≤ 1000) {σ : List AB} {K : AV → List AB → Prop} (hk : K (.sl σ.length 0 n n) (σ ++ [.rw ty_int (encInt.row (idxs n)) n])) : CallWp Tryz.prog n_impl_indices [.i .i64 n] σ K := by
  refine call_impl_indices (by simp) ?_
  simp only [c_impl_indices, List.append_assoc, at_new, at_new0, set_new, set_new0, not_true_eq_false, not_false_eq_true, decide_true, decide_false, Bool.not_true, Bool.not_false, false_implies, true_implies, and_true, true_and, Bool.false_eq_true, Bool.true_eq_false, implies_true, Bool.not_not, Classical.not_not, go_sem, Int.reduceToNat, List.take_nil, Nat.zero_mul, Nat.reduceEqDiff, Nat.reduceAdd, Nat.reduceLT, Nat.reduceLeDiff, Nat.reduceMul, ↓reduceIte, reduceCtorEq]
  rw [show rep n [AV.i .i64 0] = encInt.row (List.replicate n 0) from encInt.rep 0 _]
  refine ⟨by omega, loop_intro (fun i : List Int × Nat => ⟨[(3, .sl σ.length 0 n n), (8, .i .i64 n), (9, .i .i64 i.2)], σ ++ [.rw ty_int (encInt.row i.1) n]⟩) (fun i => i.2 ≤ n ∧ i.1.length = n ∧ ∀ j (h : j < i.1.length), j < i.2 → i.1[j] = j) (fun i => n - i.2) (List.replicate n 0, 0) ⟨Nat.zero_le _, by simp, fun j h hj => absurd hj (by omega)⟩ (Wk.keep (by simp [look_cons])) ?_⟩
  rintro ⟨W, k⟩ ⟨hk1, hW, hJ⟩
  simp only at hk1 hW hJ
  simp only [l0_impl_indices, List.append_assoc, at_new, at_new0, set_new, set_new0, not_true_eq_false, not_false_eq_true, decide_true, decide_false, Bool.not_true, Bool.not_false, false_implies, true_implies, and_true, true_and, Bool.false_eq_true, Bool.true_eq_false, implies_true, Bool.not_not, Classical.not_not, go_sem, Int.reduceToNat, List.take_nil, Nat.zero_mul, Nat.reduceEqDiff, Nat.reduceAdd, Nat.reduceLT, Nat.reduceLeDiff, Nat.reduceMul, ↓reduceIte, reduceCtorEq]
  refine ⟨fun hlt => ⟨hlt, by rw [lenI]; omega, by omega, (W.set k k, k + 1), ⟨⟨by simp only; omega, by simp only [List.length_set]; exact hW, fun j h hj => ?_⟩, by simp only; omega⟩, ?_⟩, fun hge => ?_⟩
  · simp only [List.getElem_set]
    by_cases e : k = j
    · rw [if_pos e, e]
    · rw [if_neg e]
      rw [List.length_set] at h
      simp only at hj
      exact hJ j h (by omega)
  · rw [splI (by omega)]
    exact Wk.keep (by simp [look_cons])
  · have e : W = idxs n := by
      apply List.ext_getElem
      · rw [hW, idxs_length]
      · intro j h1 h2
        rw [hJ j h1 (by omega), idxs_get h2]
    rw [e]
    exact Fin.plain hk
theorem impl_DM1_ {S : List Task} {σ : List AB} {q : Nat} {c : Nat} {x y : Int} (hS : setOk S) (hq : cellsOf σ q = some [.sl 0 0 S.length c]) (h0 : cellsOf σ 0 = some (encTask.row S)) (hx : 0 ≤ x ∧ x < S.length) (hy : 0 ≤ y ∧ y < S.length) {K : AV → List AB → Prop} (hk : K (.i .i64 ((gT S x).D - (gT S y).D)) σ) :
    CallWp Tryz.prog n_impl_DeadlineMonotonic_1 [.i .i64 x, .i .i64 y, .p q 0] σ K := by
  obtain ⟨a, rfl⟩ := Int.eq_ofNat_of_zero_le hx.1
  obtain ⟨b, rfl⟩ := Int.eq_ofNat_of_zero_le hy.1
  have ha : a < S.length := by omega
  have hb : b < S.length := by omega
  have h1 := gT_ok hS hx.1 hx.2
  have h2 := gT_ok hS hy.1 hy.2
  unfold Task.ok at h1 h2
  refine call_impl_DeadlineMonotonic_1 (by simp) ?_
  rw [gT_nat ha, gT_nat hb] at hk
  rw [gT_nat ha] at h1
  rw [gT_nat hb] at h2
  simp only [c_impl_DeadlineMonotonic_1, onC_of hq, onC_of h0, rdT1 ha, rdT1 hb, lenT, not_true_eq_false, not_false_eq_true, decide_true, decide_false, Bool.not_true, Bool.not_false, false_implies, true_implies, and_true, true_and, Bool.false_eq_true, Bool.true_eq_false, implies_true, Bool.not_not, Classical.not_not, go_sem, Int.reduceToNat, List.take_nil, Nat.zero_mul, Nat.reduceEqDiff, Nat.reduceAdd, Nat.reduceLT, Nat.reduceLeDiff, Nat.reduceMul, ↓reduceIte, reduceCtorEq]
  exact ⟨ha, by omega, hb, by omega, by omega, Fin.plain hk⟩
def dmσ (S : List Task) (c r cap : Nat) (W : List Int) : List AB := [.ro (encTask.row S), .rw ty_sl_impl_Task [.sl 0 0 S.length c] r, .rw ty_int (encInt.row W) cap]
theorem idxs_ok (n : Nat) : (idxs n).Nodup ∧ ∀ x ∈ idxs n, 0 ≤ x ∧ x < (n : Int) := by
  constructor
  · rw [List.nodup_iff_pairwise_ne, List.pairwise_iff_getElem]
    intro i j hi hj hij
    rw [idxs_get, idxs_get]
    omega
  · intro x hx
    unfold idxs at hx
    rw [List.mem_map] at hx
    obtain ⟨i, hi, rfl⟩ := hx
    rw [List.mem_range] at hi
    omega
def DmP (N : Nat) (S : List Task) (x : AV) (τ : List AB) : Prop := (¬ setOk S ∧ x = .sn ∧ τ = []) ∨ (setOk S ∧ ∃ (O : List Int) (cap cc : Nat), ordOk S O ∧ x = .sl N 0 S.length cap ∧ τ = [.rw ty_int (encInt.row O) cc])
theorem DmP.fr {N : Nat} {S : List Task} {x : AV} {τ : List AB} (h : DmP N S x τ) : τ.all plainRw = true ∧ freshA N x = true := by
  rcases h with ⟨_, rfl, rfl⟩ | ⟨_, O, cap, cc, _, rfl, rfl⟩
  · exact ⟨rfl, rfl⟩
  · simp [plainRw, encInt.row_flat, freshA, fresh1A, freshC]
end Go.Proofs.YtfngcejaphhmmaaGreatDoor
