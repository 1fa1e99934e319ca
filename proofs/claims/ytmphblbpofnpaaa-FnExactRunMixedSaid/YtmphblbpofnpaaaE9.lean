import Derived.Test.YtmphblbpofnpaaaS4
import Derived.Test.YtmphblbpofnpaaaC2
import Derived.Test.YtmphblbpofnpaaaC7
namespace Go.Proofs.Ytmphblbpofnpaaa
open Go.Abs Go.Ds
set_option linter.unusedSimpArgs false
set_option linter.unusedVariables false
set_option maxRecDepth 20000
theorem Closed_set {σ : List AB} (h : Closed σ) {n : Nat} {ty : TypeId} {row : List AV} {r : Nat} (hr : row.all flat = true) : Closed (σ.set n (.rw ty row r)) := by
  intro m B hB
  rw [List.length_set]
  rw [List.getElem?_set] at hB
  split at hB
  · split at hB
    · cases hB
      exact all_flat hr
    · cases hB
  · exact h m B hB
def markedJ (k : Int) (L : List Job) (m : Nat) : List Job := (List.range m).map (fun j : Nat => ⟨k + 4 * (j : Int), k + 4 * (j : Int) + 1, k + 4 * (j : Int) + 2, k + 4 * (j : Int) + 3⟩) ++ L.drop m
theorem markedJ_length (k : Int) (L : List Job) (m : Nat) (h : m ≤ L.length) : (markedJ k L m).length = L.length := by simp [markedJ]; omega
theorem markedJ_zero (k : Int) (L : List Job) : markedJ k L 0 = L := by simp [markedJ]
theorem markedJ_set (k : Int) (L : List Job) (m : Nat) (h : m < L.length) : (markedJ k L m).set m ⟨k + 4 * m, k + 4 * m + 1, k + 4 * m + 2, k + 4 * m + 3⟩ = markedJ k L (m + 1) := by
  unfold markedJ
  rw [List.set_append_right _ _ (by simp), List.range_succ, List.map_append, List.append_assoc]
  congr 1
  simp only [List.length_map, List.length_range, Nat.sub_self, List.map_cons, List.map_nil]
  rw [List.drop_eq_getElem_cons h]
  rfl
theorem spl4 (z : List AV) (o : Nat) (a b c d : AV) : spl (spl (spl (spl z o [a]) (o + 1) [b]) (o + 2) [c]) (o + 3) [d] = spl z o [a, b, c, d] := rfl
theorem laws_markJobS0 (L : List Job) (k : Int) (hs : L.length ≤ 1099511627776) (hk : 0 ≤ k ∧ k ≤ 1099511627776) (c r : Nat) : CallWp Try.prog n_laws_markJobS [.sl 0 0 L.length c, .i .i64 k] [.rw ty_impl_Job (encJob.row L) r]
    (fun x σ => x = .i .i64 (k + 4 * L.length) ∧ σ = [.rw ty_impl_Job (encJob.row (markedJ k L L.length)) r]) := by
  refine call_laws_markJobS (by simp) ?_
  simp only [c_laws_markJobS, go_sem, Int.reduceToNat, List.take_nil, Nat.zero_mul, Nat.reduceEqDiff, Nat.reduceAdd, Nat.reduceLT, Nat.reduceLeDiff, Nat.reduceMul, ↓reduceIte, reduceCtorEq]
  refine loop_count L.length (fun m => ⟨[(0, .sl 0 0 L.length c), (1, .i .i64 (k + 4 * m)), (5, .i .i64 m)], [.rw ty_impl_Job (encJob.row (markedJ k L m)) r]⟩) (fun _ => True) trivial ?_ fun m hm _ => ?_
  · rw [markedJ_zero]
    exact Wk.pick [0]
  simp only [l0_laws_markJobS, go_sem, Int.reduceToNat, List.take_nil, Nat.zero_mul, Nat.reduceEqDiff, Nat.reduceAdd, Nat.reduceLT, Nat.reduceLeDiff, Nat.reduceMul, ↓reduceIte, reduceCtorEq, lenT, rdT0, rdT1, rdT2, winT, takeT, appT, splT, splI, winI, lenI, rdI, takeI, appI]
  refine ⟨fun h => ?_, fun h => ?_⟩
  · have hm' : m < (markedJ k L m).length := by rw [markedJ_length _ _ _ hm]; exact h
    simp only [go_sem, Int.reduceToNat, List.take_nil, Nat.zero_mul, Nat.reduceEqDiff, Nat.reduceAdd, Nat.reduceLT, Nat.reduceLeDiff, Nat.reduceMul, ↓reduceIte, reduceCtorEq, lenJ, len1, h, markedJ_length _ _ _ hm]
    rw [spl4, splJ hm', show k + 4 * (m : Int) + 1 + 1 = k + 4 * m + 2 from by omega, show k + 4 * (m : Int) + 2 + 1 = k + 4 * m + 3 from by omega, markedJ_set k L m h]
    repeat refine ⟨by omega, ?_⟩
    exact Wk.pick [0] (by simp [seesT, belowT, below1, below, sees, ren, ren1, renC, rnp, nat2, look_cons]; omega)
  · have e : m = L.length := by omega
    subst e
    exact Fin.plain ⟨rfl, rfl⟩
theorem laws_markJobS_ {L : List Job} {k : Int} (hs : L.length ≤ 1099511627776) (hk : 0 ≤ k ∧ k ≤ 1099511627776) {σ : List AB} {n c r : Nat} (h : σ[n]? = some (.rw ty_impl_Job (encJob.row L) r)) {K : AV → List AB → Prop} (hK : K (.i .i64 (k + 4 * L.length)) (σ.set n (.rw ty_impl_Job (encJob.row (markedJ k L L.length)) r))) :
    CallWp Try.prog n_laws_markJobS [.sl n 0 L.length c, .i .i64 k] σ K :=
  call_mut h (encJob.row_flat _) (encJob.row_flat _) (laws_markJobS0 L k hs hk c r) rfl rfl hK
end Go.Proofs.Ytmphblbpofnpaaa
