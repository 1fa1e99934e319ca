import Derived.Test.YtmphblbpofnpaaaC1
import Derived.Test.YtmphblbpofnpaaaAbsY
import Derived.Test.YtmphblbpofnpaaaLowT
import Derived.Test.YtmphblbpofnpaaaM46
namespace Go.Proofs.Ytmphblbpofnpaaa
open Go.Abs Go.Ds
set_option linter.unusedSimpArgs false
set_option linter.unusedVariables false
set_option maxRecDepth 20000
set_option maxHeartbeats 2000000
/-- A family of heaps, one for each row at place n; and a comparison that can be called at each of them. -/
structure SortE (Hp : List Int → List AB) (n r g : Nat) (cb : List (Nat × Nat)) (cf : Int → Int → Int) (d : Int → Int) (B : Int) : Prop where
  at_ : ∀ W, (Hp W)[n]? = some (.rw ty_int (encInt.row W) r)
  set_ : ∀ W W', (Hp W).set n (.rw ty_int (encInt.row W') r) = Hp W'
  cmp : ∀ W x y, 0 ≤ x ∧ x < B → 0 ≤ y ∧ y < B → CallWp Try.prog g (.i .i64 x :: .i .i64 y :: pAV cb) (Hp W) (fun v σ => v = .i .i64 (cf x y) ∧ σ = Hp W)
  lt : ∀ x y, 0 ≤ x ∧ x < B → 0 ≤ y ∧ y < B → (cf x y < 0 ↔ d x < d y)
theorem get_of {l : List Int} {k : Nat} {v : Int} (h : l[k]? = some v) : ∃ g : k < l.length, l[k] = v := by
  obtain ⟨g, e⟩ := List.getElem?_eq_some_iff.1 h
  exact ⟨g, e⟩
theorem rdI' {L : List Int} {k : Nat} {v : Int} (h : L[k]? = some v) : rd (encInt.row L) k = .i .i64 v := by
  obtain ⟨g, e⟩ := get_of h
  rw [rdI g, e]
section
variable {Hp : List Int → List AB} {n r g : Nat} {cb : List (Nat × Nat)} {cf : Int → Int → Int} {d : Int → Int} {B : Int}
theorem swapRange_ (hE : SortE Hp n r g cb cf d B) {f : AV} (hf : f.data = true) {X U M V Y : List Int} {k c a b : Nat} (hU : U.length = k) (hV : V.length = k) (ha : a = X.length) (hb : b = X.length + U.length + M.length) {len : Nat} (hlen : len = X.length + U.length + M.length + V.length + Y.length) (hl : len ≤ 1000000) {K : AV → List AB → Prop}
    (hk : K (.tup []) (Hp (X ++ (V ++ (M ++ (U ++ Y)))))) :
    CallWp Try.prog n_slices_swapRangeCmpFunc_int [.sl n 0 len c, .i .i64 a, .i .i64 b, .i .i64 k, f] (Hp (X ++ (U ++ (M ++ (V ++ Y))))) K := by
  refine call_slices_swapRangeCmpFunc_int (by simp) ?_
  simp only [c_slices_swapRangeCmpFunc_int, not_true_eq_false, not_false_eq_true, decide_true, decide_false, Bool.not_true, Bool.not_false, false_implies, true_implies, and_true, true_and, Bool.false_eq_true, Bool.true_eq_false, implies_true, Bool.not_not, Classical.not_not, go_sem, Int.reduceToNat, List.take_nil, Nat.zero_mul, Nat.reduceEqDiff, Nat.reduceAdd, Nat.reduceLT, Nat.reduceLeDiff, Nat.reduceMul, ↓reduceIte, reduceCtorEq]
  rw [← swp_zero X U M V Y]
  refine loop_count k (fun t => ⟨[(0, .sl n 0 len c), (1, .i .i64 a), (2, .i .i64 b), (3, .i .i64 k), (10, .i .i64 t)], Hp (swp X U M V Y t)⟩) (fun _ => True) trivial (Wk.keep (by simp [look_cons])) fun t htk _ => ?_
  simp only [l0_slices_swapRangeCmpFunc_int, hE.at_, not_true_eq_false, not_false_eq_true, decide_true, decide_false, Bool.not_true, Bool.not_false, false_implies, true_implies, and_true, true_and, Bool.false_eq_true, Bool.true_eq_false, implies_true, Bool.not_not, Classical.not_not, go_sem, Int.reduceToNat, List.take_nil, Nat.zero_mul, Nat.reduceEqDiff, Nat.reduceAdd, Nat.reduceLT, Nat.reduceLeDiff, Nat.reduceMul, ↓reduceIte, reduceCtorEq]
  refine ⟨fun ht => ?_, fun ht => ?_⟩
  · have e1 := swp_u (X := X) (M := M) (Y := Y) hU hV ht
    have e2 := swp_v (X := X) (M := M) (Y := Y) hU hV ht
    have hl1 := swp_len X U M V Y t
    have i1 : ((a : Int) + t).toNat = X.length + t := by omega
    have i2 : ((b : Int) + t).toNat = X.length + U.length + M.length + t := by omega
    have h1 : X.length + t < (swp X U M V Y t).length := by omega
    have h2 : ∀ v, X.length + U.length + M.length + t < ((swp X U M V Y t).set (X.length + t) v).length := fun v => by rw [List.length_set]; omega
    have e3 := swp_succ (X := X) (M := M) (Y := Y) hU hV ht
    simp only [hE.at_, hE.set_, i1, i2, rdI' e1, rdI' e2, splI h1, splI (h2 _), e3, lenI, List.length_set, hl1, not_true_eq_false, not_false_eq_true, decide_true, decide_false, Bool.not_true, Bool.not_false, false_implies, true_implies, and_true, true_and, Bool.false_eq_true, Bool.true_eq_false, implies_true, Bool.not_not, Classical.not_not, go_sem, Int.reduceToNat, List.take_nil, Nat.zero_mul, Nat.reduceEqDiff, Nat.reduceAdd, Nat.reduceLT, Nat.reduceLeDiff, Nat.reduceMul, ↓reduceIte, reduceCtorEq]
    repeat' first
      | omega
      | exact Wk.keep (by simp [look_cons])
      | refine ⟨?_, ?_⟩
      | intro _
  · have e : t = k := by omega
    subst e
    rw [swp_all hU hV]
    exact Fin.plain hk
theorem rotate_ (hE : SortE Hp n r g cb cf d B) {f : AV} (hf : f.data = true) {X U V Y : List Int} {c a m b : Nat} (ha : a = X.length) (hm : m = X.length + U.length) (hb : b = X.length + U.length + V.length) (hU : 1 ≤ U.length) (hV : 1 ≤ V.length) {len : Nat} (hlen : len = X.length + U.length + V.length + Y.length) (hl : len ≤ 1000000) {K : AV → List AB → Prop}
    (hk : K (.tup []) (Hp (X ++ (V ++ (U ++ Y))))) :
    CallWp Try.prog n_slices_rotateCmpFunc_int [.sl n 0 len c, .i .i64 a, .i .i64 m, .i .i64 b, f] (Hp (X ++ (U ++ (V ++ Y)))) K := by
  refine call_slices_rotateCmpFunc_int (by simp) ?_
  simp only [c_slices_rotateCmpFunc_int, not_true_eq_false, not_false_eq_true, decide_true, decide_false, Bool.not_true, Bool.not_false, false_implies, true_implies, and_true, true_and, Bool.false_eq_true, Bool.true_eq_false, implies_true, Bool.not_not, Classical.not_not, go_sem, Int.reduceToNat, List.take_nil, Nat.zero_mul, Nat.reduceEqDiff, Nat.reduceAdd, Nat.reduceLT, Nat.reduceLeDiff, Nat.reduceMul, ↓reduceIte, reduceCtorEq]
  refine ⟨by omega, by omega, ?_⟩
  refine loop_intro (fun i : List Int × List Int × List Int × List Int => ⟨[(0, .sl n 0 len c), (2, .i .i64 m), (4, f), (10, .i .i64 i.2.1.length), (11, .i .i64 i.2.2.1.length)], Hp (i.1 ++ (i.2.1 ++ (i.2.2.1 ++ i.2.2.2)))⟩)
    (fun i => i.1.length + i.2.1.length = m ∧ i.1.length + i.2.1.length + i.2.2.1.length + i.2.2.2.length = len ∧ 1 ≤ i.2.1.length ∧ 1 ≤ i.2.2.1.length ∧ i.1 ++ (i.2.2.1 ++ (i.2.1 ++ i.2.2.2)) = X ++ (V ++ (U ++ Y))) (fun i => i.2.1.length + i.2.2.1.length) (X, U, V, Y) ⟨by simp only; omega, by simp only; omega, hU, hV, rfl⟩ (Wk.keep (by
      intro p hp
      simp only [List.mem_cons, List.not_mem_nil, or_false] at hp
      rcases hp with rfl | rfl | rfl | rfl | rfl <;> simp [look_cons] <;> omega)) ?_
  rintro ⟨Q, U1, V1, S⟩ ⟨h1, h2, h3, h4, h5⟩
  simp only at h1 h2 h3 h4 h5
  simp only [l0_slices_rotateCmpFunc_int, hf, not_true_eq_false, not_false_eq_true, decide_true, decide_false, Bool.not_true, Bool.not_false, false_implies, true_implies, and_true, true_and, Bool.false_eq_true, Bool.true_eq_false, implies_true, Bool.not_not, Classical.not_not, go_sem, Int.reduceToNat, List.take_nil, Nat.zero_mul, Nat.reduceEqDiff, Nat.reduceAdd, Nat.reduceLT, Nat.reduceLeDiff, Nat.reduceMul, ↓reduceIte, reduceCtorEq]
  refine ⟨fun hne => ⟨fun hgt => ?_, fun hle => ?_⟩, fun heq => ?_⟩
  · have e0 : U1 = U1.take V1.length ++ U1.drop V1.length := (List.take_append_drop ..).symm
    have t1 : (U1.take V1.length).length = V1.length := by rw [List.length_take]; omega
    have t2 : (U1.drop V1.length).length = U1.length - V1.length := by rw [List.length_drop]
    have e1 : Q ++ (U1 ++ (V1 ++ S)) = Q ++ (U1.take V1.length ++ (U1.drop V1.length ++ (V1 ++ S))) := by
      rw [← List.append_assoc (U1.take _), ← e0]
    have i1 : (m : Int) - (U1.length : Int) = ((m - U1.length : Nat) : Int) := by omega
    rw [i1, e1]
    refine ⟨by omega, swapRange_ hE hf (k := V1.length) t1 rfl (by omega) (by omega) (by omega) hl ?_⟩
    simp only [not_true_eq_false, not_false_eq_true, decide_true, decide_false, Bool.not_true, Bool.not_false, false_implies, true_implies, and_true, true_and, Bool.false_eq_true, Bool.true_eq_false, implies_true, Bool.not_not, Classical.not_not, go_sem, Int.reduceToNat, List.take_nil, Nat.zero_mul, Nat.reduceEqDiff, Nat.reduceAdd, Nat.reduceLT, Nat.reduceLeDiff, Nat.reduceMul, ↓reduceIte, reduceCtorEq]
    have i2 : (U1.length : Int) - (V1.length : Int) = ((U1.drop V1.length).length : Int) := by rw [t2]; omega
    have i3 : (V1.length : Int) = ((U1.take V1.length).length : Int) := by rw [t1]
    refine ⟨by omega, (Q ++ V1, U1.drop V1.length, U1.take V1.length, S), ⟨⟨by simp only [List.length_append]; omega, by simp only [List.length_append]; omega, by simp only; omega, by simp only; omega, ?_⟩, by simp only; omega⟩, ?_⟩
    · rw [← h5]
      simp only [List.append_assoc]
      rw [← List.append_assoc (U1.take _), ← e0]
    · simp only [List.append_assoc]
      refine Wk.keep ?_
      intro p hp
      simp only [List.mem_cons, List.not_mem_nil, or_false] at hp
      rcases hp with rfl | rfl | rfl | rfl | rfl <;> simp only [look_cons, not_true_eq_false, not_false_eq_true, decide_true, decide_false, Bool.not_true, Bool.not_false, false_implies, true_implies, and_true, true_and, Bool.false_eq_true, Bool.true_eq_false, implies_true, Bool.not_not, Classical.not_not, go_sem, Int.reduceToNat, List.take_nil, Nat.zero_mul, Nat.reduceEqDiff, Nat.reduceAdd, Nat.reduceLT, Nat.reduceLeDiff, Nat.reduceMul, ↓reduceIte, reduceCtorEq] <;> first | rfl | (congr 1; omega) | simp [look_cons] <;> omega
  · have e0 : V1 = V1.take (V1.length - U1.length) ++ V1.drop (V1.length - U1.length) := (List.take_append_drop ..).symm
    have t1 : (V1.take (V1.length - U1.length)).length = V1.length - U1.length := by rw [List.length_take]; omega
    have t2 : (V1.drop (V1.length - U1.length)).length = U1.length := by rw [List.length_drop]; omega
    have e1 : Q ++ (U1 ++ (V1 ++ S)) = Q ++ (U1 ++ (V1.take (V1.length - U1.length) ++ (V1.drop (V1.length - U1.length) ++ S))) := by
      rw [← List.append_assoc (V1.take _), ← e0]
    have i1 : (m : Int) - (U1.length : Int) = ((m - U1.length : Nat) : Int) := by omega
    have i2 : (m : Int) + (V1.length : Int) - (U1.length : Int) = ((m + V1.length - U1.length : Nat) : Int) := by omega
    rw [i1, i2, e1]
    refine ⟨by omega, by omega, by omega, swapRange_ hE hf (k := U1.length) rfl t2 (by omega) (by omega) (by omega) hl ?_⟩
    simp only [not_true_eq_false, not_false_eq_true, decide_true, decide_false, Bool.not_true, Bool.not_false, false_implies, true_implies, and_true, true_and, Bool.false_eq_true, Bool.true_eq_false, implies_true, Bool.not_not, Classical.not_not, go_sem, Int.reduceToNat, List.take_nil, Nat.zero_mul, Nat.reduceEqDiff, Nat.reduceAdd, Nat.reduceLT, Nat.reduceLeDiff, Nat.reduceMul, ↓reduceIte, reduceCtorEq]
    refine ⟨by omega, (Q, V1.drop (V1.length - U1.length), V1.take (V1.length - U1.length), U1 ++ S), ⟨⟨by simp only; omega, by simp only [List.length_append]; omega, by simp only; omega, by simp only; omega, ?_⟩, by simp only; omega⟩, ?_⟩
    · rw [← h5]
      simp only
      rw [← List.append_assoc (V1.take _), ← e0]
    · refine Wk.keep ?_
      intro p hp
      simp only [List.mem_cons, List.not_mem_nil, or_false] at hp
      rcases hp with rfl | rfl | rfl | rfl | rfl <;> simp only [look_cons, not_true_eq_false, not_false_eq_true, decide_true, decide_false, Bool.not_true, Bool.not_false, false_implies, true_implies, and_true, true_and, Bool.false_eq_true, Bool.true_eq_false, implies_true, Bool.not_not, Classical.not_not, go_sem, Int.reduceToNat, List.take_nil, Nat.zero_mul, Nat.reduceEqDiff, Nat.reduceAdd, Nat.reduceLT, Nat.reduceLeDiff, Nat.reduceMul, ↓reduceIte, reduceCtorEq] <;> first | rfl | (congr 1; omega) | simp [look_cons] <;> omega
  · have i1 : (m : Int) - (U1.length : Int) = ((m - U1.length : Nat) : Int) := by omega
    rw [i1]
    have he : U1.length = V1.length := by omega
    refine ⟨by omega, ?_⟩
    have e9 : Q ++ (U1 ++ (V1 ++ S)) = Q ++ (U1 ++ ([] ++ (V1 ++ S))) := rfl
    rw [e9]
    refine swapRange_ hE hf (k := U1.length) rfl he.symm (by omega) (by simp only [List.length_nil]; omega) (by simp only [List.length_nil]; omega) hl ?_
    simp only [List.nil_append, h5, not_true_eq_false, not_false_eq_true, decide_true, decide_false, Bool.not_true, Bool.not_false, false_implies, true_implies, and_true, true_and, Bool.false_eq_true, Bool.true_eq_false, implies_true, Bool.not_not, Classical.not_not, go_sem, Int.reduceToNat, List.take_nil, Nat.zero_mul, Nat.reduceEqDiff, Nat.reduceAdd, Nat.reduceLT, Nat.reduceLeDiff, Nat.reduceMul, ↓reduceIte, reduceCtorEq]
    exact Fin.plain hk
end
end Go.Proofs.Ytmphblbpofnpaaa
