import Derived.Test.YtgnlibnnpipbhaaS20
import Derived.Test.YtgnlibnnpipbhaaS24
import Derived.Test.YtgnlibnnpipbhaaS1
import Derived.Test.YtgnlibnnpipbhaaM52
namespace Go.Proofs.Ytgnlibnnpipbhaa
open Go.Abs Go.Ds
set_option linter.unusedSimpArgs false
set_option linter.unusedVariables false
set_option maxRecDepth 20000
set_option maxHeartbeats 2000000
theorem rowI_map : ∀ L : List Int, encInt.row L = L.map (AV.i .i64)
  | [] => rfl
  | a :: L => by
    have h : encInt.row (a :: L) = encInt.row ([a] ++ L) := rfl
    rw [h, encInt.row_append, encInt.row_one, rowI_map L]; rfl
theorem winIx (X : List Int) (o k : Nat) : win (encInt.row X) o k = encInt.row ((X.drop o).take k) := by
  rw [rowI_map, rowI_map, win, List.map_take, List.map_drop]
theorem splIx (X Y : List Int) (o : Nat) (h : o + Y.length ≤ X.length) : spl (encInt.row X) o (encInt.row Y) = encInt.row (X.take o ++ (Y ++ X.drop (o + Y.length))) := by
  rw [spl_eq _ _ _ (by rw [lenI, lenI]; exact h), lenI]
  simp only [rowI_map, List.map_append, List.map_take, List.map_drop]
theorem repI (k : Nat) : List.replicate k (AV.i .i64 0) = encInt.row (List.replicate k 0) := by rw [rowI_map, List.map_replicate]
section
variable {f : Nat} {first caps : List (Nat × Nat)} {σ : List AB} {n len cap : Nat} {W : List Int} {K : AV → List AB → Prop}
theorem slices_IndexFunc_w (hl : len ≤ W.length) (hs : W.length ≤ 1000000) (hc : cellsOf σ n = some (encInt.row W)) (p : Int → Bool) (hp : ∀ t ∈ W.take len, ∀ K : AV → List AB → Prop, K (.b (p t)) σ → CallWp Try.prog f (pAV first ++ [.i .i64 t] ++ pAV caps) σ K)
    (hk : K (.i .i64 (idxF p (W.take len))) σ) : CallWp Try.prog n_slices_IndexFunc_int [.sl n 0 len cap, .fn f first caps] σ K := by
  have hlen : (W.take len).length = len := by rw [List.length_take]; omega
  refine call_slices_IndexFunc_int (by simp) ?_
  simp only [c_slices_IndexFunc_int, go_sem, Int.reduceToNat, List.take_nil, Nat.zero_mul, Nat.reduceEqDiff, Nat.reduceAdd, Nat.reduceLT, Nat.reduceLeDiff, Nat.reduceMul, ↓reduceIte, reduceCtorEq]
  refine loop_count len (fun k => ⟨[(0, .sl n 0 len cap), (1, .fn f first caps), (7, .i .i64 len), (8, .i .i64 k)], σ⟩) (fun k => ∀ x ∈ (W.take len).take k, p x = false) (by simp) (Wk.keep (by simp [look_cons])) fun k hkl hJ => ?_
  simp only [l0_slices_IndexFunc_int, go_sem, Int.reduceToNat, List.take_nil, Nat.zero_mul, Nat.reduceEqDiff, Nat.reduceAdd, Nat.reduceLT, Nat.reduceLeDiff, Nat.reduceMul, ↓reduceIte, reduceCtorEq]
  refine ⟨fun h => ?_, fun h => ?_⟩
  · have hw : k < W.length := by omega
    have hkt : k < (W.take len).length := by omega
    have e : (W.take len)[k] = W[k] := by simp
    simp only [onC_of hc, rdI hw, lenI, not_true_eq_false, not_false_eq_true, decide_true, decide_false, Bool.not_true, Bool.not_false, false_implies, true_implies, and_true, true_and, Bool.false_eq_true, Bool.true_eq_false, implies_true, Bool.not_not, Classical.not_not, go_sem, Int.reduceToNat, List.take_nil, Nat.zero_mul, Nat.reduceEqDiff, Nat.reduceAdd, Nat.reduceLT, Nat.reduceLeDiff, Nat.reduceMul, ↓reduceIte, reduceCtorEq]
    refine ⟨h, hw, ?_⟩
    refine hp _ (by rw [← e]; exact List.getElem_mem _) _ ?_
    simp only [go_sem, Int.reduceToNat, List.take_nil, Nat.zero_mul, Nat.reduceEqDiff, Nat.reduceAdd, Nat.reduceLT, Nat.reduceLeDiff, Nat.reduceMul, ↓reduceIte, reduceCtorEq]
    refine bc_of (fun h3 => Fin.plain ?_) fun h3 => ⟨by omega, ⟨h, (all_take_succ hkt).2 ⟨hJ, by rw [e]; exact h3⟩⟩, Wk.keep (by simp [look_cons])⟩
    rw [← idxF_found hkt hJ (by rw [e]; exact h3)]; exact hk
  · have e : k = len := by omega
    subst e
    rw [List.take_of_length_le (by omega)] at hJ
    refine Fin.plain ?_
    rw [← idxF_none hJ]; exact hk
end
theorem idxF_range {α : Type} {p : α → Bool} {L : List α} : idxF p L = -1 ∨ 0 ≤ idxF p L := by
  unfold idxF
  split
  · right; omega
  · left; rfl
theorem idxF_take {α : Type} {p : α → Bool} {L : List α} {k : Nat} (h : idxF p L = k) : ∃ g : k < L.length, p L[k] = true ∧ ∀ x ∈ L.take k, p x = false := by
  unfold idxF at h
  cases e : L.findIdx? p with
  | none => rw [e] at h; simp at h
  | some i =>
    rw [e] at h
    simp only at h
    obtain rfl : i = k := by omega
    rw [List.findIdx?_eq_some_iff_getElem] at e
    refine ⟨e.1, e.2.1, fun x hx => ?_⟩
    obtain ⟨j, hj, rfl⟩ := List.mem_take_iff_getElem.1 hx
    simpa using e.2.2 j (by omega)
theorem idxF_neg {α : Type} {p : α → Bool} {L : List α} (h : idxF p L = -1) : ∀ x ∈ L, p x = false := by
  intro x hx
  cases e : p x with
  | false => rfl
  | true => have := idxF_any.2 ⟨x, hx, e⟩; omega
theorem slices_Delete_ {σ : List AB} {n r : Nat} {W : List Int} {len k : Nat} (hk : k < len) (hl : len ≤ W.length) (hr : W.length = r) (hs : r ≤ 1000000) (hc : σ[n]? = some (.rw ty_int (encInt.row W) r)) {K : AV → List AB → Prop}
    (h : ∀ W' : List Int, W'.length = r → W'.take (len - 1) = (W.take len).eraseIdx k → K (.sl n 0 (len - 1) r) (σ.set n (.rw ty_int (encInt.row W') r))) :
    CallWp Try.prog n_slices_Delete_int [.sl n 0 len r, .i .i64 k, .i .i64 (k + 1)] σ K := by
  have hlt := (List.getElem?_eq_some_iff.1 hc).1
  have e0 : ((k : Int) + 1).toNat = k + 1 := by omega
  have e1 : k + (len - (k + 1)) = len - 1 := by omega
  have e2 : len - (len - 1) = 1 := by omega
  obtain ⟨Y, hY⟩ : ∃ Y, Y = (W.drop (k + 1)).take (len - (k + 1)) := ⟨_, rfl⟩
  have hYl : Y.length = len - (k + 1) := by rw [hY, List.length_take, List.length_drop]; omega
  obtain ⟨X, hX⟩ : ∃ X, X = W.take k ++ (Y ++ W.drop (k + Y.length)) := ⟨_, rfl⟩
  have hXl : X.length = r := by rw [hX]; simp only [List.length_append, List.length_take, List.length_drop, hYl]; omega
  have s1 : spl (encInt.row W) k (encInt.row Y) = encInt.row X := by rw [splIx _ _ _ (by rw [hYl]; omega), hX]
  have w1 : win (encInt.row W) (k + 1) (len - (k + 1)) = encInt.row Y := by rw [winIx, hY]
  have w2 : len = k + 1 → win (encInt.row W) 0 (len - (k + 1)) = encInt.row Y := fun e => by rw [winIx, hY, e]; simp
  have hg : ∀ B : AB, (σ.set n B)[n]? = some B := fun B => by rw [List.getElem?_set, if_pos rfl, if_pos hlt]
  have s2 : spl (encInt.row X) (len - 1) [.i .i64 0] = encInt.row (X.take (len - 1) ++ ([0] ++ X.drop len)) := by
    have := splIx X [0] (len - 1) (by simp; omega)
    rw [show encInt.row [(0 : Int)] = [.i .i64 0] from rfl] at this
    rw [this]
    simp only [List.length_cons, List.length_nil]
    rw [show len - 1 + (0 + 1) = len by omega]
  have fin : Fin σ.length (σ.set n (.rw ty_int (encInt.row (X.take (len - 1) ++ ([0] ++ X.drop len))) r)) (.sl n 0 (len - 1) r) K := by
    refine Fin.plain (h _ ?_ ?_)
    · simp only [List.length_append, List.length_take, List.length_drop, List.length_cons, List.length_nil]; omega
    · rw [List.take_append_of_le_length (by rw [List.length_take]; omega), List.take_take, Nat.min_self, hX, List.eraseIdx_eq_take_drop_succ, List.take_append, List.take_append, List.length_take, hYl]
      rw [show min k W.length = k by omega, List.take_of_length_le (by rw [List.length_take]; omega), show len - 1 - k = Y.length by omega, List.take_length, show Y.length - (len - (k + 1)) = 0 by omega, List.take_zero, List.append_nil, List.take_take, show min k len = k by omega, hY, List.drop_take]
  refine call_slices_Delete_int (by simp) ?_
  by_cases hrk : r = k + 1
  · have hlen : len = k + 1 := by omega
    have w3 := w2 hlen
    simp only [c_slices_Delete_int, e0, e1, e2, hc, onC_rw, onW_rw, w1, w3, s1, hg, List.set_set, List.replicate_one, s2, lenI, not_true_eq_false, not_false_eq_true, decide_true, decide_false, Bool.not_true, Bool.not_false, false_implies, true_implies, and_true, true_and, Bool.false_eq_true, Bool.true_eq_false, implies_true, Bool.not_not, Classical.not_not, go_sem, Int.reduceToNat, List.take_nil, Nat.zero_mul, Nat.reduceEqDiff, Nat.reduceAdd, Nat.reduceLT, Nat.reduceLeDiff, Nat.reduceMul, ↓reduceIte, reduceCtorEq]
    repeat' first | omega | exact fin | (intro h; exfalso; omega) | refine ⟨?_, ?_⟩ | intro _
  · simp only [c_slices_Delete_int, e0, e1, e2, hc, onC_rw, onW_rw, w1, s1, hg, List.set_set, List.replicate_one, s2, lenI, not_true_eq_false, not_false_eq_true, decide_true, decide_false, Bool.not_true, Bool.not_false, false_implies, true_implies, and_true, true_and, Bool.false_eq_true, Bool.true_eq_false, implies_true, Bool.not_not, Classical.not_not, go_sem, Int.reduceToNat, List.take_nil, Nat.zero_mul, Nat.reduceEqDiff, Nat.reduceAdd, Nat.reduceLT, Nat.reduceLeDiff, Nat.reduceMul, ↓reduceIte, reduceCtorEq]
    repeat' first | omega | exact fin | (intro h; exfalso; omega) | refine ⟨?_, ?_⟩ | intro _
end Go.Proofs.Ytgnlibnnpipbhaa
