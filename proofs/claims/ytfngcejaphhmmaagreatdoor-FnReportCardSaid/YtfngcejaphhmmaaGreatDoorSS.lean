import Derived.Test.YtfngcejaphhmmaaGreatDoorC1
import Derived.Test.YtfngcejaphhmmaaGreatDoorAbsY
import Derived.Test.YtfngcejaphhmmaaGreatDoorLowT
import Derived.Test.YtfngcejaphhmmaaGreatDoorM46
namespace Go.Proofs.YtfngcejaphhmmaaGreatDoor
open Go.Abs Go.Ds
set_option linter.unusedSimpArgs false
set_option linter.unusedVariables false
set_option maxRecDepth 20000
set_option maxHeartbeats 2000000
/-- A family of heaps, one for each row at place n; and a comparison that can be called at each of them. -/
structure SortE (Hp : List Int → List AB) (n r g : Nat) (cb : List (Nat × Nat)) (cf : Int → Int → Int) (d : Int → Int) (B : Int) : Prop where
  at_ : ∀ W, (Hp W)[n]? = some (.rw ty_int (encInt.row W) r)
  set_ : ∀ W W', (Hp W).set n (.rw ty_int (encInt.row W') r) = Hp W'
  cmp : ∀ W x y, 0 ≤ x ∧ x < B → 0 ≤ y ∧ y < B → CallWp Tryz.prog g (.i .i64 x :: .i .i64 y :: pAV cb) (Hp W) (fun v σ => v = .i .i64 (cf x y) ∧ σ = Hp W)
  lt : ∀ x y, 0 ≤ x ∧ x < B → 0 ≤ y ∧ y < B → (cf x y < 0 ↔ d x < d y)
theorem get_of {l : List Int} {k : Nat} {v : Int} (h : l[k]? = some v) : ∃ g : k < l.length, l[k] = v := by
  obtain ⟨g, e⟩ := List.getElem?_eq_some_iff.1 h
  exact ⟨g, e⟩
theorem rdI' {L : List Int} {k : Nat} {v : Int} (h : L[k]? = some v) : rd (encInt.row L) k = .i .i64 v := by
  obtain ⟨g, e⟩ := get_of h
  rw [rdI g, e]
section
variable {Hp : List Int → List AB} {n r g : Nat} {cb : List (Nat × Nat)} {cf : Int → Int → Int} {d : Int → Int} {B : Int}
theorem swapRange_ (hE : SortE Hp n r g cb cf d B) {f : AV} (hf : f.data = true) {X U M V Y : List Int} {k c a b : Nat} (hU : U.length = k) (hV : V.length = k) (ha : a = X.length) (hb : b = X.length + U.length + M.length) {len : Nat} (hlen : len = X.length + U.length + M.length + V.length + Y.length) (hl : len ≤ 1000000) {K : AV → List AB → Prop}
    (hk : K (.tup []) (Hp (X ++ (V ++ (M ++ (U ++ Y)))))) :
    CallWp Tryz.prog n_slices_swapRangeCmpFunc_int [.sl n 0 len c, .i .i64 a, .i .i64 b, .i .i64 k, f] (Hp (X ++ (U ++ (M ++ (V ++ Y))))) K := by
  refine call_slices_swapRangeCmpFunc_int (by simp) ?_
  simp only [c_slices_swapRangeCmpFunc_int, not_true_eq_false, not_false_eq_true, decide_true, decide_false, Bool.not_true, Bool.not_false, false_implies, true_implies, and_true, true_and, Bool.false_eq_true, Bool.true_eq_false, implies_true, Bool.not_not, Classical.not_not, go_sem, Int.reduceToNat, List.take_nil, Nat.zero_mul, Nat.reduceEqDiff, Nat.reduceAdd, Nat.reduceLT, Nat.reduceLeDiff, Nat.reduceMul, ↓reduceIte, reduceCtorEq]
  rw [← swp_zero X U M V Y]
  refine loop_count k (fun t => ⟨[(0, .sl n 0 len c), (1, .i .i64 a), (2, .i .i64 b), (3, .i .i64 k), (10, .i .i64 t)], Hp (swp X U M V Y t)⟩) (fun _ => True) trivial (Wk.keep (by simp [look_cons])) fun t htk _ => ?_
  simp only [l0_slices_swapRangeCmpFunc_int, hE.at_, not_true_eq_false, not_false_eq_true, decide_true, decide_false, Bool.not_true, Bool.not_false, false_implies, true_implies, and_true, true_and, Bool.false_eq_true, Bool.true_eq_false, implies_true, Bool.not_not, Classical.not_not, go_sem, Int.reduceToNat, List.take_nil, Nat.zero_mul, Nat.reduceEqDiff, Nat.reduceAdd, Nat.reduceLT, Nat.reduceLeDiff, Nat.reduceMul, ↓reduceIte, reduceCtorEq]
  refine ⟨fun ht => ?_, fun ht => ?_⟩
  · have e1 := swp_u (X := X) (M := M) (Y := Y) hU hV ht
    have e2 := swp_v (X := X) (M := M) (Y := Y) hU hV ht
    have hl1 := swp_len X U M V Y t
    have i1 : ((a : Int) + t).toNat = X.length + t := by omega
    have i2 : ((b : Int) + t).toNat = X.length + U.length + M.length + t := by omega
    have h1 : X.length + t < (swp X U M V Y t).length := by omega
    have h2 : ∀ v, X.length + U.length + M.length + t < ((swp X U M V Y t).set (X.length + t) v).length := fun v => by rw [List.length_set]; omega
    have e3 := swp_succ (X := X) (M := M) (Y := Y) hU hV ht
    simp only [hE.at_, hE.set_, i1, i2, rdI' e1, rdI' e2, splI h1, splI (h2 _), e3, lenI, List.length_set, hl1, not_true_eq_false, not_false_eq_true, decide_true, decide_false, Bool.not_true, Bool.not_false, false_implies, true_implies, and_true, true_and, Bool.false_eq_true, Bool.true_eq_false, implies_true, Bool.not_not, Classical.not_not, go_sem, Int.reduceToNat, List.take_nil, Nat.zero_mul, Nat.reduceEqDiff, Nat.reduceAdd, Nat.reduceLT, Nat.reduceLeDiff, Nat.reduceMul, ↓reduceIte, reduceCtorEq]
    repeat' first
      | omega
      | exact Wk.keep (by simp [look_cons])
      | refine ⟨?_, ?_⟩
      | intro _
  · have e : t = k := by omega
    subst e
    rw [swp_all hU hV]
    exact Fin.plain hk
theorem rotate_ (hE : SortE Hp n r g cb cf d B) {f : AV} (hf : f.data = true) {X U V Y : List Int} {c a m b : Nat} (ha : a = X.length) (hm : m = X.length + U.length) (hb : b = X.length + U.length + V.length) (hU : 1 ≤ U.length) (hV : 1 ≤ V.length) {len : Nat} (hlen : len = X.length + U.length + V.length + Y.length) (hl : len ≤ 1000000) {K : AV → List AB → Prop}
    (hk : K (.tup []) (Hp (X ++ (V ++ (U ++ Y))))) :
    CallWp Tryz.prog n_slices_rotateCmpFunc_int [.sl n 0 len c, .i .i64 a, .i .i64 m, .i .i64 b, f] (Hp (X ++ (U ++ (V ++ Y)))) K := by
  refine call_slices_rotateCmpFunc_int (by simp) ?_
  simp only [c_slices_rotateCmpFunc_int, not_true_eq_false, not_false_eq_true, decide_true, decide_false, Bool.not_true, Bool.not_false, false_implies, true_implies, and_true, true_and, Bool.false_eq_true, Bool.true_eq_false, implies_true, Bool.not_not, Classical.not_not, go_sem, Int.reduceToNat, List.take_nil, Nat.zero_mul, Nat.reduceEqDiff, Nat.reduceAdd, Nat.reduceLT, Nat.reduceLeDiff, Nat.reduceMul, ↓reduceIte, reduceCtorEq]
  refine ⟨by omega, by omega, ?_⟩
  refine loop_intro (fun i : List Int × List Int × List Int × List Int => ⟨[(0, .sl n 0 len c), (2, .i .i64 m), (4, f), (10, .i .i64 i.2.1.length), (11, .i .i64 i.2.2.1.length)], Hp (i.1 ++ (i.2.1 ++ (i.2.2.1 ++ i.2.2.2)))⟩)
    (fun i => i.1.length + i.2.1.length = m ∧ i.1.length + i.2.1.length + i.2.2.1.length + i.2.2.2.length = len ∧ 1 ≤ i.2.1.length ∧ 1 ≤ i.2.2.1.length ∧ i.1 ++ (i.2.2.1 ++ (i.2.1 ++ i.2.2.2)) = X ++ (V ++ (U ++ Y))) (fun i => i.2.1.length + i.2.2.1.length) (X, U, V, Y) ⟨by simp only; omega, by simp only; omega, hU, hV, rfl⟩ (Wk.keep (by
      intro p hp
      simp only [List.mem_cons, List.not_mem_nil, or_false] at hp
      rcases hp with rfl | rfl | rfl | rfl | rfl <;> simp [look_cons] <;> omega)) ?_
  rintro ⟨Q, U1, V1, S⟩ ⟨h1, h2, h3, h4, h5⟩
  simp only at h1 h2 h3 h4 h5
  simp only [l0_slices_rotateCmpFunc_int, hf, not_true_eq_false, not_false_eq_true, decide_true, decide_false, Bool.not_true, Bool.not_false, false_implies, true_implies, and_true, true_and, Bool.false_eq_true, Bool.true_eq_false, implies_true, Bool.not_not, Classical.not_not, go_sem, Int.reduceToNat, List.take_nil, Nat.zero_mul, Nat.reduceEqDiff, Nat.reduceAdd, Nat.reduceLT, Nat.reduceLeDiff, Nat.reduceMul, ↓reduceIte, reduceCtorEq]
  refine ⟨fun hne => ⟨fun hgt => ?_, fun hle => ?_⟩, fun heq => ?_⟩
  · have e0 : U1 = U1.take V1.length ++ U1.drop V1.length := (List.take_append_drop ..).symm
    have t1 : (U1.take V1.length).length = V1.length := by rw [List.length_take]; omega
    have t2 : (U1.drop V1.length).length = U1.length - V1.length := by rw [List.length_drop]
    have e1 : Q ++ (U1 ++ (V1 ++ S)) = Q ++ (U1.take V1.length ++ (U1.drop V1.length ++ (V1 ++ S))) := by
      rw [← List.append_assoc (U1.take _), ← e0]
    have i1 : (m : Int) - (U1.length : Int) = ((m - U1.length : Nat) : Int) := by omega
    rw [i1, e1]
    refine ⟨by omega, swapRange_ hE hf (k := V1.length) t1 rfl (by omega) (by omega) (by omega) hl ?_⟩
    simp only [not_true_eq_false, not_false_eq_true, decide_true, decide_false, Bool.not_true, Bool.not_false, false_implies, true_implies, and_true, true_and, Bool.false_eq_true, Bool.true_eq_false, implies_true, Bool.not_not, Classical.not_not, go_sem, Int.reduceToNat, List.take_nil, Nat.zero_mul, Nat.reduceEqDiff, Nat.reduceAdd, Nat.reduceLT, Nat.reduceLeDiff, Nat.reduceMul, ↓reduceIte, reduceCtorEq]
    have i2 : (U1.length : Int) - (V1.length : Int) = ((U1.drop V1.length).length : Int) := by rw [t2]; omega
    have i3 : (V1.length : Int) = ((U1.take V1.length).length : Int) := by rw [t1]
    refine ⟨by omega, (Q ++ V1, U1.drop V1.length, U1.take V1.length, S), ⟨⟨by simp only [List.length_append]; omega, by simp only [List.length_append]; omega, by simp only; omega, by simp only; omega, ?_⟩, by simp only; omega⟩, ?_⟩
    · rw [← h5]
      simp only [List.append_assoc]
      rw [← List.append_assoc (U1.take _), ← e0]
    · simp only [List.append_assoc]
      refine Wk.keep ?_
      intro p hp
      simp only [List.mem_cons, List.not_mem_nil, or_false] at hp
      rcases hp with rfl | rfl | rfl | rfl | rfl <;> simp only [look_cons, not_true_eq_false, not_false_eq_true, decide_true, decide_false, Bool.not_true, Bool.not_false, false_implies, true_implies, and_true, true_and, Bool.false_eq_true, Bool.true_eq_false, implies_true, Bool.not_not, Classical.not_not, go_sem, Int.reduceToNat, List.take_nil, Nat.zero_mul, Nat.reduceEqDiff, Nat.reduceAdd, Nat.reduceLT, Nat.reduceLeDiff, Nat.reduceMul, ↓reduceIte, reduceCtorEq] <;> first | rfl | (congr 1; omega) | simp [look_cons] <;> omega
  · have e0 : V1 = V1.take (V1.length - U1.length) ++ V1.drop (V1.length - U1.length) := (List.take_append_drop ..).symm
    have t1 : (V1.take (V1.length - U1.length)).length = V1.length - U1.length := by rw [List.length_take]; omega
    have t2 : (V1.drop (V1.length - U1.length)).length = U1.length := by rw [List.length_drop]; omega
    have e1 : Q ++ (U1 ++ (V1 ++ S)) = Q ++ (U1 ++ (V1.take (V1.length - U1.length) ++ (V1.drop (V1.length - U1.length) ++ S))) := by
      rw [← List.append_assoc (V1.take _), ← e0]
    have i1 : (m : Int) - (U1.length : Int) = ((m - U1.length : Nat) : Int) := by omega
    have i2 : (m : Int) + (V1.length : Int) - (U1.length : Int) = ((m + V1.length - U1.length : Nat) : Int) := by omega
    rw [i1, i2, e1]
    refine ⟨by omega, by omega, by omega, swapRange_ hE hf (k := U1.length) rfl t2 (by omega) (by omega) (by omega) hl ?_⟩
    simp only [not_true_eq_false, not_false_eq_true, decide_true, decide_false, Bool.not_true, Bool.not_false, false_implies, true_implies, and_true, true_and, Bool.false_eq_true, Bool.true_eq_false, implies_true, Bool.not_not, Classical.not_not, go_sem, Int.reduceToNat, List.take_nil, Nat.zero_mul, Nat.reduceEqDiff, Nat.reduceAdd, Nat.reduceLT, Nat.reduceLeDiff, Nat.reduceMul, ↓reduceIte, reduceCtorEq]
    refine ⟨by omega, (Q, V1.drop (V1.length - U1.length), V1.take (V1.length - U1.length), U1 ++ S), ⟨⟨by simp only; omega, by simp only [List.length_append]; omega, by simp only; omega, by simp only; omega, ?_⟩, by simp only; omega⟩, ?_⟩
    · rw [← h5]
      simp only
      rw [← List.append_assoc (V1.take _), ← e0]
    · refine Wk.keep ?_
      intro p hp
      simp only [List.mem_cons, List.not_mem_nil, or_false] at hp
      rcases hp with rfl | rfl | rfl | rfl | rfl <;> simp only [look_cons, not_true_eq_false, not_false_eq_true, decide_true, decide_false, Bool.not_true, Bool.not_false, false_implies, true_implies, and_true, true_and, Bool.false_eq_true, Bool.true_eq_false, implies_true, Bool.not_not, Classical.not_not, go_sem, Int.reduceToNat, List.take_nil, Nat.zero_mul, Nat.reduceEqDiff, Nat.reduceAdd, Nat.reduceLT, Nat.reduceLeDiff, Nat.reduceMul, ↓reduceIte, reduceCtorEq] <;> first | rfl | (congr 1; omega) | simp [look_cons] <;> omega
  · have i1 : (m : Int) - (U1.length : Int) = ((m - U1.length : Nat) : Int) := by omega
    rw [i1]
    have he : U1.length = V1.length := by omega
    refine ⟨by omega, ?_⟩
    have e9 : Q ++ (U1 ++ (V1 ++ S)) = Q ++ (U1 ++ ([] ++ (V1 ++ S))) := rfl
    rw [e9]
    refine swapRange_ hE hf (k := U1.length) rfl he.symm (by omega) (by simp only [List.length_nil]; omega) (by simp only [List.length_nil]; omega) hl ?_
    simp only [List.nil_append, h5, not_true_eq_false, not_false_eq_true, decide_true, decide_false, Bool.not_true, Bool.not_false, false_implies, true_implies, and_true, true_and, Bool.false_eq_true, Bool.true_eq_false, implies_true, Bool.not_not, Classical.not_not, go_sem, Int.reduceToNat, List.take_nil, Nat.zero_mul, Nat.reduceEqDiff, Nat.reduceAdd, Nat.reduceLT, Nat.reduceLeDiff, Nat.reduceMul, ↓reduceIte, reduceCtorEq]
    exact Fin.plain hk
end
end Go.Proofs.YtfngcejaphhmmaaGreatDoor
/- Contracts: a stable sort by a comparison, of the library: two sorted stretches become one. -/
namespace Go.Proofs.YtfngcejaphhmmaaGreatDoor
open Go.Abs Go.Ds
set_option linter.unusedSimpArgs false
set_option linter.unusedVariables false
set_option maxRecDepth 20000
set_option maxHeartbeats 4000000
theorem getL {X L R Y : List Int} {k : Nat} (t : Nat) (h : t < L.length) (hk : k = X.length + t) : (X ++ (L ++ (R ++ Y)))[k]? = some L[t] := by
  subst hk
  rw [List.getElem?_append_right (by omega), Nat.add_sub_cancel_left, List.getElem?_append_left h, List.getElem?_eq_getElem h]
theorem getR {X L R Y : List Int} {k : Nat} (t : Nat) (h : t < R.length) (hk : k = X.length + L.length + t) : (X ++ (L ++ (R ++ Y)))[k]? = some R[t] := by
  subst hk
  rw [List.getElem?_append_right (by omega), show X.length + L.length + t - X.length = L.length + t by omega, List.getElem?_append_right (by omega), Nat.add_sub_cancel_left, List.getElem?_append_left h, List.getElem?_eq_getElem h]
section
variable {Hp : List Int → List AB} {n r g : Nat} {cb : List (Nat × Nat)} {cf : Int → Int → Int} {d : Int → Int} {B : Int}
theorem sym_left (hE : SortE Hp n r g cb cf d B) {X R Y : List Int} {x : Int} {c a m b : Nat} (ha : a = X.length) (hm : m = X.length + 1) (hb : b = X.length + 1 + R.length) {len : Nat} (hlen : len = X.length + 1 + R.length + Y.length) (hl : len ≤ 1000000)
    (hx : 0 ≤ x ∧ x < B) (hrng : ∀ y ∈ R, 0 ≤ y ∧ y < B) (hs : ∀ y ∈ R, x < y) (hR : Srt d R) {K : AV → List AB → Prop}
    (hk : ∀ Z : List Int, Z.Perm (x :: R) → Srt d Z → K (.tup []) (Hp (X ++ (Z ++ Y)))) :
    CallWp Tryz.prog n_slices_symMergeCmpFunc_int [.sl n 0 len c, .i .i64 a, .i .i64 m, .i .i64 b, .fn g [] cb] (Hp (X ++ (x :: (R ++ Y)))) K := by
  refine call_slices_symMergeCmpFunc_int (by simp) ?_
  simp only [c_slices_symMergeCmpFunc_int, not_true_eq_false, not_false_eq_true, decide_true, decide_false, Bool.not_true, Bool.not_false, false_implies, true_implies, and_true, true_and, Bool.false_eq_true, Bool.true_eq_false, implies_true, Bool.not_not, Classical.not_not, go_sem, Int.reduceToNat, List.take_nil, Nat.zero_mul, Nat.reduceEqDiff, Nat.reduceAdd, Nat.reduceLT, Nat.reduceLeDiff, Nat.reduceMul, ↓reduceIte, reduceCtorEq]
  refine ⟨by omega, fun _ => ?_, fun h => absurd (by omega) h⟩
  refine loop_intro (fun i : Nat × Nat => ⟨[(0, .sl n 0 len c), (1, .i .i64 a), (4, .fn g [] cb), (10, .i .i64 (m + i.1 : Nat)), (11, .i .i64 (m + i.2 : Nat))], Hp (X ++ (x :: (R ++ Y)))⟩)
    (fun i => i.1 ≤ i.2 ∧ i.2 ≤ R.length ∧ (i.1 = 0 ∨ ∃ q : i.1 - 1 < R.length, ltK d R[i.1 - 1] x) ∧ (i.2 = R.length ∨ ∃ q : i.2 < R.length, ltK d x R[i.2])) (fun i => i.2 - i.1) (0, R.length) ⟨Nat.zero_le _, Nat.le_refl _, .inl rfl, .inl rfl⟩ (Wk.keep (by
      intro p hp
      simp only [List.mem_cons, List.not_mem_nil, or_false] at hp
      rcases hp with rfl | rfl | rfl | rfl | rfl <;> simp [look_cons] <;> omega)) ?_
  rintro ⟨p, q⟩ ⟨h1, h2, h3, h4⟩
  simp only at h1 h2 h3 h4
  simp only [l4_slices_symMergeCmpFunc_int, not_true_eq_false, not_false_eq_true, decide_true, decide_false, Bool.not_true, Bool.not_false, false_implies, true_implies, and_true, true_and, Bool.false_eq_true, Bool.true_eq_false, implies_true, Bool.not_not, Classical.not_not, go_sem, Int.reduceToNat, List.take_nil, Nat.zero_mul, Nat.reduceEqDiff, Nat.reduceAdd, Nat.reduceLT, Nat.reduceLeDiff, Nat.reduceMul, ↓reduceIte, reduceCtorEq]
  refine ⟨fun hlt => ?_, fun hge => ?_⟩
  · have hh : (((m + p : Nat) : Int) + ((m + q : Nat) : Int)) / 2 = ((m + (p + q) / 2 : Nat) : Int) := by omega
    have hmid : (p + q) / 2 < R.length := by omega
    have e1 : (X ++ (x :: (R ++ Y)))[m + (p + q) / 2]? = some (R[(p + q) / 2]) := getR (L := [x]) _ hmid (by simp only [List.length_cons, List.length_nil]; omega)
    have e2 : (X ++ (x :: (R ++ Y)))[a]? = some x := getL (L := [x]) 0 (by simp) (by omega)
    have hl1 : (X ++ (x :: (R ++ Y))).length = len := by simp; omega
    have hy := hrng _ (List.getElem_mem hmid)
    have hxy := hs _ (List.getElem_mem hmid)
    have hc := hE.lt _ _ hy hx
    simp only [hh, hE.at_, rdI' e1, rdI' e2, lenI, hl1, not_true_eq_false, not_false_eq_true, decide_true, decide_false, Bool.not_true, Bool.not_false, false_implies, true_implies, and_true, true_and, Bool.false_eq_true, Bool.true_eq_false, implies_true, Bool.not_not, Classical.not_not, go_sem, Int.reduceToNat, List.take_nil, Nat.zero_mul, Nat.reduceEqDiff, Nat.reduceAdd, Nat.reduceLT, Nat.reduceLeDiff, Nat.reduceMul, ↓reduceIte, reduceCtorEq]
    refine ⟨by omega, by omega, by omega, by omega, by omega, by omega, by omega, by omega, onCall.by (hE.cmp _ _ _ hy hx) ?_⟩
    simp only [not_true_eq_false, not_false_eq_true, decide_true, decide_false, Bool.not_true, Bool.not_false, false_implies, true_implies, and_true, true_and, Bool.false_eq_true, Bool.true_eq_false, implies_true, Bool.not_not, Classical.not_not, go_sem, Int.reduceToNat, List.take_nil, Nat.zero_mul, Nat.reduceEqDiff, Nat.reduceAdd, Nat.reduceLT, Nat.reduceLeDiff, Nat.reduceMul, ↓reduceIte, reduceCtorEq]
    refine ⟨fun hcl => ⟨by omega, (((p + q) / 2 + 1, q) : Nat × Nat), ⟨⟨by simp only; omega, h2, .inr ⟨by simp only; omega, .inl (by simpa using hc.1 hcl)⟩, h4⟩, by simp only; omega⟩, ?_⟩, fun hcl => ⟨((p, (p + q) / 2) : Nat × Nat), ⟨⟨by simp only; omega, by simp only; omega, h3, .inr ⟨hmid, ?_⟩⟩, by simp only; omega⟩, ?_⟩⟩
    · refine Wk.keep ?_
      intro p hp
      simp only [List.mem_cons, List.not_mem_nil, or_false] at hp
      rcases hp with rfl | rfl | rfl | rfl | rfl <;> simp [look_cons] <;> omega
    · have : ¬ d R[(p + q) / 2] < d x := fun h => hcl (hc.2 h)
      show ltK d x R[(p + q) / 2]
      unfold ltK; omega
    · refine Wk.keep ?_
      intro p hp
      simp only [List.mem_cons, List.not_mem_nil, or_false] at hp
      rcases hp with rfl | rfl | rfl | rfl | rfl <;> simp [look_cons] <;> omega
  · have e : p = q := by omega
    subst e
    have z0 : Hp (X ++ (x :: (R ++ Y))) = Hp (mvR X R Y x 0) := by simp [mvR]
    rw [z0]
    refine loop_count p (fun t => ⟨[(0, .sl n 0 len c), (10, .i .i64 (m + p : Nat)), (13, .i .i64 (a + t : Nat))], Hp (mvR X R Y x t)⟩) (fun _ => True) trivial (Wk.keep (by
      intro p hp
      simp only [List.mem_cons, List.not_mem_nil, or_false] at hp
      rcases hp with rfl | rfl | rfl <;> simp [look_cons])) fun t htp _ => ?_
    simp only [l3_slices_symMergeCmpFunc_int, hE.at_, not_true_eq_false, not_false_eq_true, decide_true, decide_false, Bool.not_true, Bool.not_false, false_implies, true_implies, and_true, true_and, Bool.false_eq_true, Bool.true_eq_false, implies_true, Bool.not_not, Classical.not_not, go_sem, Int.reduceToNat, List.take_nil, Nat.zero_mul, Nat.reduceEqDiff, Nat.reduceAdd, Nat.reduceLT, Nat.reduceLeDiff, Nat.reduceMul, ↓reduceIte, reduceCtorEq]
    refine ⟨by omega, fun ht => ?_, fun ht => ?_⟩
    · have htR : t < R.length := by omega
      have e1 := mvR_x' (X := X) (Y := Y) (x := x) (R := R) (t := t) (by omega)
      have e2 := mvR_r (X := X) (Y := Y) (x := x) htR
      have e3 := mvR_succ (X := X) (Y := Y) (x := x) htR
      have hl1 := mvR_len X R Y x t
      have i1 : (a + t : Nat) = X.length + t := by omega
      have i2 : (((X.length + t : Nat) : Int) + 1).toNat = X.length + t + 1 := by omega
      have g1 : X.length + t < (mvR X R Y x t).length := by omega
      have g2 : ∀ v, X.length + t + 1 < ((mvR X R Y x t).set (X.length + t) v).length := fun v => by rw [List.length_set]; omega
      simp only [i1, i2, hE.at_, hE.set_, rdI' e1, rdI' e2, splI g1, splI (g2 _), e3, lenI, List.length_set, hl1, not_true_eq_false, not_false_eq_true, decide_true, decide_false, Bool.not_true, Bool.not_false, false_implies, true_implies, and_true, true_and, Bool.false_eq_true, Bool.true_eq_false, implies_true, Bool.not_not, Classical.not_not, go_sem, Int.reduceToNat, List.take_nil, Nat.zero_mul, Nat.reduceEqDiff, Nat.reduceAdd, Nat.reduceLT, Nat.reduceLeDiff, Nat.reduceMul, ↓reduceIte, reduceCtorEq]
      repeat' first
        | omega
        | (refine Wk.keep ?_
           intro p hp
           simp only [List.mem_cons, List.not_mem_nil, or_false] at hp
           rcases hp with rfl | rfl | rfl <;> simp [look_cons] <;> omega)
        | refine ⟨?_, ?_⟩
        | intro _
    · have e : t = p := by omega
      subst e
      refine Fin.plain ?_
      have := hk (R.take t ++ x :: R.drop t) (perm_ins R x t) (srt_ins hR (srt_low hR h2 h3) (srt_high hR h4))
      simpa [mvR] using this
theorem sym_right (hE : SortE Hp n r g cb cf d B) {X L Y : List Int} {y : Int} {c a m b : Nat} (ha : a = X.length) (hm : m = X.length + L.length) (hb : b = X.length + L.length + 1) (hL1 : L.length ≠ 1) {len : Nat} (hlen : len = X.length + L.length + 1 + Y.length) (hl : len ≤ 1000000)
    (hy : 0 ≤ y ∧ y < B) (hrng : ∀ x ∈ L, 0 ≤ x ∧ x < B) (hs : ∀ x ∈ L, x < y) (hL : Srt d L) {K : AV → List AB → Prop}
    (hk : ∀ Z : List Int, Z.Perm (L ++ [y]) → Srt d Z → K (.tup []) (Hp (X ++ (Z ++ Y)))) :
    CallWp Tryz.prog n_slices_symMergeCmpFunc_int [.sl n 0 len c, .i .i64 a, .i .i64 m, .i .i64 b, .fn g [] cb] (Hp (X ++ (L ++ (y :: Y)))) K := by
  refine call_slices_symMergeCmpFunc_int (by simp) ?_
  simp only [c_slices_symMergeCmpFunc_int, not_true_eq_false, not_false_eq_true, decide_true, decide_false, Bool.not_true, Bool.not_false, false_implies, true_implies, and_true, true_and, Bool.false_eq_true, Bool.true_eq_false, implies_true, Bool.not_not, Classical.not_not, go_sem, Int.reduceToNat, List.take_nil, Nat.zero_mul, Nat.reduceEqDiff, Nat.reduceAdd, Nat.reduceLT, Nat.reduceLeDiff, Nat.reduceMul, ↓reduceIte, reduceCtorEq]
  refine ⟨by omega, fun h => absurd h (by omega), fun _ => ⟨by omega, fun _ => ?_, fun h => absurd (by omega) h⟩⟩
  refine loop_intro (fun i : Nat × Nat => ⟨[(0, .sl n 0 len c), (2, .i .i64 m), (4, .fn g [] cb), (14, .i .i64 (a + i.1 : Nat)), (15, .i .i64 (a + i.2 : Nat))], Hp (X ++ (L ++ (y :: Y)))⟩)
    (fun i => i.1 ≤ i.2 ∧ i.2 ≤ L.length ∧ (i.1 = 0 ∨ ∃ q : i.1 - 1 < L.length, ltK d L[i.1 - 1] y) ∧ (i.2 = L.length ∨ ∃ q : i.2 < L.length, ltK d y L[i.2])) (fun i => i.2 - i.1) (0, L.length) ⟨Nat.zero_le _, Nat.le_refl _, .inl rfl, .inl rfl⟩ (Wk.keep (by
      intro p hp
      simp only [List.mem_cons, List.not_mem_nil, or_false] at hp
      rcases hp with rfl | rfl | rfl | rfl | rfl <;> simp [look_cons] <;> omega)) ?_
  rintro ⟨p, q⟩ ⟨h1, h2, h3, h4⟩
  simp only at h1 h2 h3 h4
  simp only [l2_slices_symMergeCmpFunc_int, not_true_eq_false, not_false_eq_true, decide_true, decide_false, Bool.not_true, Bool.not_false, false_implies, true_implies, and_true, true_and, Bool.false_eq_true, Bool.true_eq_false, implies_true, Bool.not_not, Classical.not_not, go_sem, Int.reduceToNat, List.take_nil, Nat.zero_mul, Nat.reduceEqDiff, Nat.reduceAdd, Nat.reduceLT, Nat.reduceLeDiff, Nat.reduceMul, ↓reduceIte, reduceCtorEq]
  refine ⟨fun hlt => ?_, fun hge => ?_⟩
  · have hh : (((a + p : Nat) : Int) + ((a + q : Nat) : Int)) / 2 = ((a + (p + q) / 2 : Nat) : Int) := by omega
    have hmid : (p + q) / 2 < L.length := by omega
    have e1 : (X ++ (L ++ y :: Y))[a + (p + q) / 2]? = some (L[(p + q) / 2]) := getL (R := [y]) _ hmid (by omega)
    have e2 : (X ++ (L ++ (y :: Y)))[m]? = some y := getR (R := [y]) 0 (by simp) (by omega)
    have hl1 : (X ++ (L ++ (y :: Y))).length = len := by simp; omega
    have hx := hrng _ (List.getElem_mem hmid)
    have hxy := hs _ (List.getElem_mem hmid)
    have hc := hE.lt _ _ hy hx
    simp only [hh, hE.at_, rdI' e1, rdI' e2, lenI, hl1, not_true_eq_false, not_false_eq_true, decide_true, decide_false, Bool.not_true, Bool.not_false, false_implies, true_implies, and_true, true_and, Bool.false_eq_true, Bool.true_eq_false, implies_true, Bool.not_not, Classical.not_not, go_sem, Int.reduceToNat, List.take_nil, Nat.zero_mul, Nat.reduceEqDiff, Nat.reduceAdd, Nat.reduceLT, Nat.reduceLeDiff, Nat.reduceMul, ↓reduceIte, reduceCtorEq]
    refine ⟨by omega, by omega, by omega, by omega, by omega, by omega, by omega, by omega, onCall.by (hE.cmp _ _ _ hy hx) ?_⟩
    simp only [not_true_eq_false, not_false_eq_true, decide_true, decide_false, Bool.not_true, Bool.not_false, false_implies, true_implies, and_true, true_and, Bool.false_eq_true, Bool.true_eq_false, implies_true, Bool.not_not, Classical.not_not, go_sem, Int.reduceToNat, List.take_nil, Nat.zero_mul, Nat.reduceEqDiff, Nat.reduceAdd, Nat.reduceLT, Nat.reduceLeDiff, Nat.reduceMul, ↓reduceIte, reduceCtorEq]
    refine ⟨fun hcl => ⟨by omega, (((p + q) / 2 + 1, q) : Nat × Nat), ⟨⟨by simp only; omega, h2, .inr ⟨by simp only; omega, ?_⟩, h4⟩, by simp only; omega⟩, ?_⟩, fun hcl => ⟨((p, (p + q) / 2) : Nat × Nat), ⟨⟨by simp only; omega, by simp only; omega, h3, .inr ⟨hmid, .inl (hc.1 hcl)⟩⟩, by simp only; omega⟩, ?_⟩⟩
    · have : ¬ d y < d L[(p + q) / 2] := fun h => hcl (hc.2 h)
      simp only [Nat.add_sub_cancel]
      unfold ltK; omega
    · refine Wk.keep ?_
      intro p hp
      simp only [List.mem_cons, List.not_mem_nil, or_false] at hp
      rcases hp with rfl | rfl | rfl | rfl | rfl <;> simp [look_cons] <;> omega
    · refine Wk.keep ?_
      intro p hp
      simp only [List.mem_cons, List.not_mem_nil, or_false] at hp
      rcases hp with rfl | rfl | rfl | rfl | rfl <;> simp [look_cons] <;> omega
  · have e : p = q := by omega
    subst e
    have z0 : Hp (X ++ (L ++ (y :: Y))) = Hp (mvR X L Y y L.length) := by simp [mvR]
    rw [z0]
    refine loop_intro (fun t : Nat => ⟨[(0, .sl n 0 len c), (14, .i .i64 (a + p : Nat)), (17, .i .i64 (a + t : Nat))], Hp (mvR X L Y y t)⟩) (fun t => p ≤ t ∧ t ≤ L.length) (fun t => t) L.length ⟨h2, Nat.le_refl _⟩ (Wk.keep (by
      intro p hp
      simp only [List.mem_cons, List.not_mem_nil, or_false] at hp
      rcases hp with rfl | rfl | rfl <;> simp [look_cons] <;> omega)) ?_
    rintro t ⟨ht1, ht2⟩
    simp only [l1_slices_symMergeCmpFunc_int, hE.at_, not_true_eq_false, not_false_eq_true, decide_true, decide_false, Bool.not_true, Bool.not_false, false_implies, true_implies, and_true, true_and, Bool.false_eq_true, Bool.true_eq_false, implies_true, Bool.not_not, Classical.not_not, go_sem, Int.reduceToNat, List.take_nil, Nat.zero_mul, Nat.reduceEqDiff, Nat.reduceAdd, Nat.reduceLT, Nat.reduceLeDiff, Nat.reduceMul, ↓reduceIte, reduceCtorEq]
    refine ⟨fun ht => ?_, fun ht => ?_⟩
    · obtain ⟨u, rfl⟩ : ∃ u, t = u + 1 := ⟨t - 1, by omega⟩
      have e1 := mvR_x' (X := X) (Y := Y) (x := y) (R := L) (t := u + 1) (by omega)
      have e2 := mvR_l (X := X) (Y := Y) (x := y) (R := L) (t := u) (by omega)
      have e3 := mvR_pred (X := X) (Y := Y) (x := y) (R := L) (t := u) (by omega)
      have hl1 := mvR_len X L Y y (u + 1)
      have i1 : (a + (u + 1) : Nat) = X.length + (u + 1) := by omega
      have i2 : (((X.length + (u + 1) : Nat) : Int) - 1).toNat = X.length + u := by omega
      have g1 : X.length + (u + 1) < (mvR X L Y y (u + 1)).length := by omega
      have g2 : ∀ v, X.length + u < ((mvR X L Y y (u + 1)).set (X.length + (u + 1)) v).length := fun v => by rw [List.length_set]; omega
      simp only [i1, i2, hE.at_, hE.set_, rdI' e1, rdI' e2, splI g1, splI (g2 _), e3, lenI, List.length_set, hl1, not_true_eq_false, not_false_eq_true, decide_true, decide_false, Bool.not_true, Bool.not_false, false_implies, true_implies, and_true, true_and, Bool.false_eq_true, Bool.true_eq_false, implies_true, Bool.not_not, Classical.not_not, go_sem, Int.reduceToNat, List.take_nil, Nat.zero_mul, Nat.reduceEqDiff, Nat.reduceAdd, Nat.reduceLT, Nat.reduceLeDiff, Nat.reduceMul, ↓reduceIte, reduceCtorEq]
      repeat' first
        | omega
        | (refine ⟨u, ⟨⟨by omega, by omega⟩, by omega⟩, Wk.keep ?_⟩
           intro p hp
           simp only [List.mem_cons, List.not_mem_nil, or_false] at hp
           rcases hp with rfl | rfl | rfl <;> simp [look_cons] <;> omega)
        | refine ⟨?_, ?_⟩
        | intro _
    · have e : t = p := by omega
      subst e
      refine Fin.plain ?_
      have := hk (L.take t ++ y :: L.drop t) ((perm_ins L y t).trans (List.perm_append_comm (l₁ := [y]) (l₂ := L))) (srt_ins hL (srt_low hL h2 h3) (srt_high hL h4))
      simpa [mvR] using this
end
end Go.Proofs.YtfngcejaphhmmaaGreatDoor
/- Contracts: a stable sort by a comparison, of the library: two sorted stretches become one, whatever their lengths. -/
namespace Go.Proofs.YtfngcejaphhmmaaGreatDoor
open Go.Abs Go.Ds
set_option linter.unusedSimpArgs false
set_option linter.unusedVariables false
set_option maxRecDepth 20000
set_option maxHeartbeats 4000000
section
variable {Hp : List Int → List AB} {n r g : Nat} {cb : List (Nat × Nat)} {cf : Int → Int → Int} {d : Int → Int} {B : Int}
theorem symMerge_ (hE : SortE Hp n r g cb cf d B) {c len : Nat} (hl : len ≤ 1000000) : ∀ (s : Nat) {X L R Y : List Int} {a m b : Nat}, L.length + R.length ≤ s → a = X.length → m = X.length + L.length → b = X.length + L.length + R.length → 1 ≤ L.length → 1 ≤ R.length → len = X.length + L.length + R.length + Y.length →
    (∀ x ∈ L, 0 ≤ x ∧ x < B) → (∀ x ∈ R, 0 ≤ x ∧ x < B) → Sep L R → Srt d L → Srt d R → ∀ {K : AV → List AB → Prop}, (∀ Z : List Int, Z.Perm (L ++ R) → Srt d Z → K (.tup []) (Hp (X ++ (Z ++ Y)))) →
    CallWp Tryz.prog n_slices_symMergeCmpFunc_int [.sl n 0 len c, .i .i64 a, .i .i64 m, .i .i64 b, .fn g [] cb] (Hp (X ++ (L ++ (R ++ Y)))) K := by
  intro s
  induction s with
  | zero => intro X L R Y a m b h0 _ _ _ hL; omega
  | succ s ih =>
  intro X L R Y a m b hs ha hm hb hL hR hlen rL rR sep sL sR K hk
  by_cases hL1 : L.length = 1
  · match L, hL1 with
    | [x], _ =>
      exact sym_left hE ha hm hb hlen hl (rL x (by simp)) rR (fun y hy => sep x (by simp) y hy) sR fun Z hp hs => hk Z hp hs
  by_cases hR1 : R.length = 1
  · match R, hR1 with
    | [y], _ =>
      exact sym_right hE ha hm hb hL1 hlen hl (rR y (by simp)) rL (fun x hx => sep x hx y (by simp)) sL fun Z hp hs => hk Z hp hs
  refine call_slices_symMergeCmpFunc_int (by simp) ?_
  obtain ⟨mid, hmid⟩ : ∃ mid, mid = (a + b) / 2 := ⟨_, rfl⟩
  have hh : ((a : Int) + b) / 2 = (mid : Int) := by omega
  simp only [c_slices_symMergeCmpFunc_int, hh, not_true_eq_false, not_false_eq_true, decide_true, decide_false, Bool.not_true, Bool.not_false, false_implies, true_implies, and_true, true_and, Bool.false_eq_true, Bool.true_eq_false, implies_true, Bool.not_not, Classical.not_not, go_sem, Int.reduceToNat, List.take_nil, Nat.zero_mul, Nat.reduceEqDiff, Nat.reduceAdd, Nat.reduceLT, Nat.reduceLeDiff, Nat.reduceMul, ↓reduceIte, reduceCtorEq]
  refine ⟨by omega, fun h => absurd h (by omega), fun _ => ⟨by omega, fun h => absurd h (by omega), fun _ => ?_⟩⟩
  refine ⟨by omega, by omega, by omega, by omega, by omega, ?_⟩
  refine seq_join (fun i : Nat × Nat => ⟨[(0, .sl n 0 len c), (1, .i .i64 a), (2, .i .i64 m), (3, .i .i64 b), (4, .fn g [] cb), (18, .i .i64 mid), (19, .i .i64 (mid + m : Nat)), (20, .i .i64 (a + i.1 : Nat)), (21, .i .i64 (a + i.2 : Nat))], Hp (X ++ (L ++ (R ++ Y)))⟩)
    (fun i => (mid < m ∧ a + i.1 + b = mid + m ∧ a + i.2 = mid) ∨ (m ≤ mid ∧ i.1 = 0 ∧ a + i.2 = m)) ?_ ?_
  · simp only [not_true_eq_false, not_false_eq_true, decide_true, decide_false, Bool.not_true, Bool.not_false, false_implies, true_implies, and_true, true_and, Bool.false_eq_true, Bool.true_eq_false, implies_true, Bool.not_not, Classical.not_not, go_sem, Int.reduceToNat, List.take_nil, Nat.zero_mul, Nat.reduceEqDiff, Nat.reduceAdd, Nat.reduceLT, Nat.reduceLeDiff, Nat.reduceMul, ↓reduceIte, reduceCtorEq]
    refine ⟨fun h => ⟨by omega, kJ_intro (mid + m - b - a, mid - a) (.inl ⟨h, by simp only; omega, by simp only; omega⟩) (Wk.keep ?_)⟩, fun h => kJ_intro (0, m - a) (.inr ⟨by omega, rfl, by simp only; omega⟩) (Wk.keep ?_)⟩
    all_goals
      intro p hp
      simp only [List.mem_cons, List.not_mem_nil, or_false] at hp
      rcases hp with rfl | rfl | rfl | rfl | rfl | rfl | rfl | rfl | rfl <;> simp [look_cons] <;> omega
  rintro ⟨u0, w0⟩ hJ0
  simp only at hJ0
  obtain ⟨h, hh2⟩ : ∃ h, mid = a + h := ⟨mid - a, by omega⟩
  simp only [not_true_eq_false, not_false_eq_true, decide_true, decide_false, Bool.not_true, Bool.not_false, false_implies, true_implies, and_true, true_and, Bool.false_eq_true, Bool.true_eq_false, implies_true, Bool.not_not, Classical.not_not, go_sem, Int.reduceToNat, List.take_nil, Nat.zero_mul, Nat.reduceEqDiff, Nat.reduceAdd, Nat.reduceLT, Nat.reduceLeDiff, Nat.reduceMul, ↓reduceIte, reduceCtorEq]
  refine ⟨by omega, ?_⟩
  refine loop_intro (fun i : Nat × Nat => ⟨[(0, .sl n 0 len c), (1, .i .i64 a), (2, .i .i64 m), (3, .i .i64 b), (4, .fn g [] cb), (18, .i .i64 mid), (19, .i .i64 (mid + m : Nat)), (20, .i .i64 (a + i.1 : Nat)), (21, .i .i64 (a + i.2 : Nat)), (22, .i .i64 (mid + m - 1 : Nat))], Hp (X ++ (L ++ (R ++ Y)))⟩)
    (fun i => u0 ≤ i.1 ∧ i.1 ≤ i.2 ∧ i.2 ≤ w0 ∧ (i.1 = u0 ∨ ∃ (g : i.1 - 1 < L.length) (g' : h - i.1 < R.length), ltK d L[i.1 - 1] R[h - i.1]) ∧ (i.2 = w0 ∨ ∃ (g : i.2 < L.length) (g' : h - 1 - i.2 < R.length), ltK d R[h - 1 - i.2] L[i.2])) (fun i => i.2 - i.1) (u0, w0) ⟨Nat.le_refl _, by simp only; omega, Nat.le_refl _, .inl rfl, .inl rfl⟩ (Wk.keep (by
      intro p hp
      simp only [List.mem_cons, List.not_mem_nil, or_false] at hp
      rcases hp with rfl | rfl | rfl | rfl | rfl | rfl | rfl | rfl | rfl | rfl <;> simp [look_cons] <;> omega)) ?_
  rintro ⟨u, w⟩ ⟨j1, j2, j3, j4, j5⟩
  simp only at j1 j2 j3 j4 j5
  simp only [l0_slices_symMergeCmpFunc_int, not_true_eq_false, not_false_eq_true, decide_true, decide_false, Bool.not_true, Bool.not_false, false_implies, true_implies, and_true, true_and, Bool.false_eq_true, Bool.true_eq_false, implies_true, Bool.not_not, Classical.not_not, go_sem, Int.reduceToNat, List.take_nil, Nat.zero_mul, Nat.reduceEqDiff, Nat.reduceAdd, Nat.reduceLT, Nat.reduceLeDiff, Nat.reduceMul, ↓reduceIte, reduceCtorEq]
  refine ⟨fun hlt => ?_, fun hge => ?_⟩
  · obtain ⟨e, he⟩ : ∃ e, e = (u + w) / 2 := ⟨_, rfl⟩
    have hh3 : (((a + u : Nat) : Int) + ((a + w : Nat) : Int)) / 2 = ((a + e : Nat) : Int) := by omega
    have eL : e < L.length := by omega
    have eR : h - 1 - e < R.length := by omega
    have i1 : (((mid + m - 1 : Nat) : Int) - ((a + e : Nat) : Int)) = ((m + (h - 1 - e) : Nat) : Int) := by omega
    have e1 : (X ++ (L ++ (R ++ Y)))[a + e]? = some (L[e]) := getL _ eL (by omega)
    have e2 : (X ++ (L ++ (R ++ Y)))[m + (h - 1 - e)]? = some (R[h - 1 - e]) := getR _ eR (by omega)
    have hl1 : (X ++ (L ++ (R ++ Y))).length = len := by simp; omega
    have hx := rL _ (List.getElem_mem eL)
    have hy := rR _ (List.getElem_mem eR)
    have hxy := sep _ (List.getElem_mem eL) _ (List.getElem_mem eR)
    have hc := hE.lt _ _ hy hx
    simp only [hh3, i1, hE.at_, rdI' e1, rdI' e2, lenI, hl1, not_true_eq_false, not_false_eq_true, decide_true, decide_false, Bool.not_true, Bool.not_false, false_implies, true_implies, and_true, true_and, Bool.false_eq_true, Bool.true_eq_false, implies_true, Bool.not_not, Classical.not_not, go_sem, Int.reduceToNat, List.take_nil, Nat.zero_mul, Nat.reduceEqDiff, Nat.reduceAdd, Nat.reduceLT, Nat.reduceLeDiff, Nat.reduceMul, ↓reduceIte, reduceCtorEq]
    refine ⟨by omega, by omega, by omega, by omega, by omega, by omega, by omega, by omega, by omega, onCall.by (hE.cmp _ _ _ hy hx) ?_⟩
    simp only [not_true_eq_false, not_false_eq_true, decide_true, decide_false, Bool.not_true, Bool.not_false, false_implies, true_implies, and_true, true_and, Bool.false_eq_true, Bool.true_eq_false, implies_true, Bool.not_not, Classical.not_not, go_sem, Int.reduceToNat, List.take_nil, Nat.zero_mul, Nat.reduceEqDiff, Nat.reduceAdd, Nat.reduceLT, Nat.reduceLeDiff, Nat.reduceMul, ↓reduceIte, reduceCtorEq]
    refine ⟨fun hcl => ⟨by omega, ((e + 1, w) : Nat × Nat), ⟨⟨by simp only; omega, by simp only; omega, j3, .inr ⟨by simp only; omega, by simp only; omega, ?_⟩, j5⟩, by simp only; omega⟩, Wk.keep ?_⟩, fun hcl => ⟨((u, e) : Nat × Nat), ⟨⟨j1, by simp only; omega, by simp only; omega, j4, .inr ⟨eL, eR, .inl (hc.1 hcl)⟩⟩, by simp only; omega⟩, Wk.keep ?_⟩⟩
    · have q1 : ¬ d R[h - 1 - e] < d L[e] := fun h => hcl (hc.2 h)
      have q2 : h - (e + 1) = h - 1 - e := by omega
      simp only [Nat.add_sub_cancel, q2]
      unfold ltK; omega
    all_goals
      intro p hp
      simp only [List.mem_cons, List.not_mem_nil, or_false] at hp
      rcases hp with rfl | rfl | rfl | rfl | rfl | rfl | rfl | rfl | rfl | rfl <;> simp [look_cons] <;> omega
  · have euw : u = w := by omega
    subst euw
    have huL : u ≤ L.length := by omega
    have hvR : h - u ≤ R.length := by omega
    have c1 : ∀ x ∈ L.take u, ∀ y ∈ R.drop (h - u), ltK d x y := cross_low sL sR huL (by
      rcases j4 with j | ⟨q1, q2, q⟩
      · rcases hJ0 with ⟨_, g1, g2⟩ | ⟨_, g1, g2⟩
        · exact .inr (.inl (by omega))
        · exact .inl (by omega)
      · exact .inr (.inr ⟨q1, q2, q⟩))
    have c2 : ∀ x ∈ R.take (h - u), ∀ y ∈ L.drop u, ltK d x y := cross_high sL sR hvR (by
      rcases j5 with j | ⟨q1, q2, q⟩
      · rcases hJ0 with ⟨_, g1, g2⟩ | ⟨_, g1, g2⟩
        · exact .inr (.inl (by omega))
        · exact .inl (by omega)
      · refine .inr (.inr ⟨q1, by omega, ?_⟩)
        have : h - u - 1 = h - 1 - u := by omega
        simp only [this]; exact q)
    have eL : L = L.take u ++ L.drop u := (List.take_append_drop u L).symm
    have eR : R = R.take (h - u) ++ R.drop (h - u) := (List.take_append_drop (h - u) R).symm
    have lA : (L.take u).length = u := by rw [List.length_take]; omega
    have lU : (L.drop u).length = L.length - u := by rw [List.length_drop]
    have lV : (R.take (h - u)).length = h - u := by rw [List.length_take]; omega
    have lB : (R.drop (h - u)).length = R.length - (h - u) := by rw [List.length_drop]
    generalize L.take u = A at *
    generalize L.drop u = U at *
    generalize R.take (h - u) = V at *
    generalize R.drop (h - u) = Bk at *
    subst eL eR
    simp only [List.length_append] at *
    simp only [List.append_assoc] at *
    have sepAV : Sep A V := fun x hx y hy => sep x (List.mem_append_left _ hx) y (List.mem_append_left _ hy)
    have sepUB : Sep U Bk := fun x hx y hy => sep x (List.mem_append_right _ hx) y (List.mem_append_right _ hy)
    have sA : Srt d A := (List.pairwise_append.1 sL).1
    have sU : Srt d U := (List.pairwise_append.1 sL).2.1
    have sV : Srt d V := (List.pairwise_append.1 sR).1
    have sB : Srt d Bk := (List.pairwise_append.1 sR).2.1
    have i3 : (((mid + m : Nat) : Int) - ((a + u : Nat) : Int)) = ((m + V.length : Nat) : Int) := by omega
    simp only [i3, not_true_eq_false, not_false_eq_true, decide_true, decide_false, Bool.not_true, Bool.not_false, false_implies, true_implies, and_true, true_and, Bool.false_eq_true, Bool.true_eq_false, implies_true, Bool.not_not, Classical.not_not, go_sem, Int.reduceToNat, List.take_nil, Nat.zero_mul, Nat.reduceEqDiff, Nat.reduceAdd, Nat.reduceLT, Nat.reduceLeDiff, Nat.reduceMul, ↓reduceIte, reduceCtorEq]
    refine ⟨by omega, ?_⟩
    refine seq_join (fun _ : Unit => ⟨[(0, .sl n 0 len c), (1, .i .i64 a), (2, .i .i64 m), (3, .i .i64 b), (4, .fn g [] cb), (18, .i .i64 mid), (20, .i .i64 (a + u : Nat)), (24, .i .i64 (m + V.length : Nat))], Hp (X ++ (A ++ (V ++ (U ++ (Bk ++ Y)))))⟩) (fun _ => True) ?_ ?_
    · have keep : ∀ (T : List (Nat × AV)) (W : List Int), (∀ p ∈ [((0 : Nat), AV.sl n 0 len c), (1, .i .i64 a), (2, .i .i64 m), (3, .i .i64 b), (4, .fn g [] cb), (18, .i .i64 mid), (20, .i .i64 (a + u : Nat)), (24, .i .i64 (m + V.length : Nat))], Go.Abs.look T p.1 = p.2) → W = X ++ (A ++ (V ++ (U ++ (Bk ++ Y)))) → kJ (Hp (X ++ (A ++ (U ++ (V ++ (Bk ++ Y)))))).length 220 (fun _ : Unit => ⟨[(0, .sl n 0 len c), (1, .i .i64 a), (2, .i .i64 m), (3, .i .i64 b), (4, .fn g [] cb), (18, .i .i64 mid), (20, .i .i64 (a + u : Nat)), (24, .i .i64 (m + V.length : Nat))], Hp (X ++ (A ++ (V ++ (U ++ (Bk ++ Y)))))⟩) (fun _ => True) (retP (Hp (X ++ (A ++ (U ++ (V ++ (Bk ++ Y)))))).length [] K) .normal ⟨T, Hp W⟩ := fun T W h e => by
        subst e; exact kJ_intro () trivial (Wk.keep h)
      simp only [not_true_eq_false, not_false_eq_true, decide_true, decide_false, Bool.not_true, Bool.not_false, false_implies, true_implies, and_true, true_and, Bool.false_eq_true, Bool.true_eq_false, implies_true, Bool.not_not, Classical.not_not, go_sem, Int.reduceToNat, List.take_nil, Nat.zero_mul, Nat.reduceEqDiff, Nat.reduceAdd, Nat.reduceLT, Nat.reduceLeDiff, Nat.reduceMul, ↓reduceIte, reduceCtorEq]
      refine ⟨fun q1 => ⟨fun q2 => ?_, fun q2 => ?_⟩, fun q1 => ?_⟩
      · have e0 : X ++ (A ++ (U ++ (V ++ (Bk ++ Y)))) = (X ++ A) ++ (U ++ (V ++ (Bk ++ Y))) := by simp only [List.append_assoc]
        have := fun (K : AV → List AB → Prop) => rotate_ (K := K) hE (f := .fn g [] cb) rfl (X := X ++ A) (U := U) (V := V) (Y := Bk ++ Y) (c := c) (a := a + u) (m := m) (b := m + V.length) (by simp only [List.length_append]; omega) (by simp only [List.length_append]; omega) (by simp only [List.length_append]; omega) (by omega) (by omega) (len := len) (by simp only [List.length_append]; omega) hl
        simp only [List.append_assoc] at this
        refine this _ ?_
        simp only [not_true_eq_false, not_false_eq_true, decide_true, decide_false, Bool.not_true, Bool.not_false, false_implies, true_implies, and_true, true_and, Bool.false_eq_true, Bool.true_eq_false, implies_true, Bool.not_not, Classical.not_not, go_sem, Int.reduceToNat, List.take_nil, Nat.zero_mul, Nat.reduceEqDiff, Nat.reduceAdd, Nat.reduceLT, Nat.reduceLeDiff, Nat.reduceMul, ↓reduceIte, reduceCtorEq]
        refine keep _ _ ?_ rfl
        intro p hp
        simp only [List.mem_cons, List.not_mem_nil, or_false] at hp
        rcases hp with rfl | rfl | rfl | rfl | rfl | rfl | rfl | rfl <;> simp [look_cons]
      · refine keep _ _ ?_ ?_
        · intro p hp
          simp only [List.mem_cons, List.not_mem_nil, or_false] at hp
          rcases hp with rfl | rfl | rfl | rfl | rfl | rfl | rfl | rfl <;> simp [look_cons]
        · have : V = [] := List.eq_nil_of_length_eq_zero (by omega)
          subst this; rfl
      · refine keep _ _ ?_ ?_
        · intro p hp
          simp only [List.mem_cons, List.not_mem_nil, or_false] at hp
          rcases hp with rfl | rfl | rfl | rfl | rfl | rfl | rfl | rfl <;> simp [look_cons]
        · have : U = [] := List.eq_nil_of_length_eq_zero (by omega)
          subst this; rfl
    intro _ _
    refine seq_join (fun Z1 : List Int => ⟨[(0, .sl n 0 len c), (1, .i .i64 a), (2, .i .i64 m), (3, .i .i64 b), (4, .fn g [] cb), (18, .i .i64 mid), (20, .i .i64 (a + u : Nat)), (24, .i .i64 (m + V.length : Nat))], Hp (X ++ (Z1 ++ (U ++ (Bk ++ Y))))⟩) (fun Z1 => Z1.Perm (A ++ V) ∧ Srt d Z1) ?_ ?_
    · simp only [not_true_eq_false, not_false_eq_true, decide_true, decide_false, Bool.not_true, Bool.not_false, false_implies, true_implies, and_true, true_and, Bool.false_eq_true, Bool.true_eq_false, implies_true, Bool.not_not, Classical.not_not, go_sem, Int.reduceToNat, List.take_nil, Nat.zero_mul, Nat.reduceEqDiff, Nat.reduceAdd, Nat.reduceLT, Nat.reduceLeDiff, Nat.reduceMul, ↓reduceIte, reduceCtorEq]
      refine ⟨fun q1 => ⟨fun q2 => ?_, fun q2 => ?_⟩, fun q1 => ?_⟩
      · refine ih (X := X) (L := A) (R := V) (Y := U ++ (Bk ++ Y)) (by omega) ha (by omega) (by omega) (by omega) (by omega) (by simp only [List.length_append]; omega) (fun x hx => rL x (List.mem_append_left _ hx)) (fun x hx => rR x (List.mem_append_left _ hx)) sepAV sA sV fun Z hp hs => ?_
        simp only [not_true_eq_false, not_false_eq_true, decide_true, decide_false, Bool.not_true, Bool.not_false, false_implies, true_implies, and_true, true_and, Bool.false_eq_true, Bool.true_eq_false, implies_true, Bool.not_not, Classical.not_not, go_sem, Int.reduceToNat, List.take_nil, Nat.zero_mul, Nat.reduceEqDiff, Nat.reduceAdd, Nat.reduceLT, Nat.reduceLeDiff, Nat.reduceMul, ↓reduceIte, reduceCtorEq]
        refine kJ_intro Z ⟨hp, hs⟩ (Wk.keep ?_)
        intro p hp
        simp only [List.mem_cons, List.not_mem_nil, or_false] at hp
        rcases hp with rfl | rfl | rfl | rfl | rfl | rfl | rfl | rfl <;> simp [look_cons]
      · have : V = [] := List.eq_nil_of_length_eq_zero (by omega)
        subst this
        refine kJ_intro A ⟨by rw [List.append_nil], sA⟩ (Wk.keep ?_)
        intro p hp
        simp only [List.mem_cons, List.not_mem_nil, or_false] at hp
        rcases hp with rfl | rfl | rfl | rfl | rfl | rfl | rfl | rfl <;> simp [look_cons]
      · have : A = [] := List.eq_nil_of_length_eq_zero (by omega)
        subst this
        refine kJ_intro V ⟨.refl _, sV⟩ (Wk.keep ?_)
        intro p hp
        simp only [List.mem_cons, List.not_mem_nil, or_false] at hp
        rcases hp with rfl | rfl | rfl | rfl | rfl | rfl | rfl | rfl <;> simp [look_cons]
    rintro Z1 ⟨p1, s1⟩
    have lZ : Z1.length = A.length + V.length := by rw [p1.length_eq, List.length_append]
    have fin : ∀ Z2 : List Int, Z2.Perm (U ++ Bk) → Srt d Z2 → K (.tup []) (Hp (X ++ (Z1 ++ (Z2 ++ Y)))) := fun Z2 p2 s2 => by
      obtain ⟨s3, p3⟩ := srt_cross sL sR c1 c2 p1 p2 s1 s2
      have := hk (Z1 ++ Z2) (by simpa only [List.append_assoc] using p3) s3
      simpa only [List.append_assoc] using this
    simp only [not_true_eq_false, not_false_eq_true, decide_true, decide_false, Bool.not_true, Bool.not_false, false_implies, true_implies, and_true, true_and, Bool.false_eq_true, Bool.true_eq_false, implies_true, Bool.not_not, Classical.not_not, go_sem, Int.reduceToNat, List.take_nil, Nat.zero_mul, Nat.reduceEqDiff, Nat.reduceAdd, Nat.reduceLT, Nat.reduceLeDiff, Nat.reduceMul, ↓reduceIte, reduceCtorEq]
    refine ⟨fun q1 => ⟨fun q2 => ?_, fun q2 => ?_⟩, fun q1 => ?_⟩
    · have := ih (X := X ++ Z1) (L := U) (R := Bk) (Y := Y) (a := mid) (m := m + V.length) (b := b) (by omega) (by simp only [List.length_append]; omega) (by simp only [List.length_append]; omega) (by simp only [List.length_append]; omega) (by omega) (by omega) (by simp only [List.length_append]; omega) (fun x hx => rL x (List.mem_append_right _ hx)) (fun x hx => rR x (List.mem_append_right _ hx)) sepUB sU sB (K := fun v σ => v = .tup [] ∧ ∃ Z2 : List Int, Z2.Perm (U ++ Bk) ∧ Srt d Z2 ∧ σ = Hp (X ++ (Z1 ++ (Z2 ++ Y)))) (fun Z2 p2 s2 => ⟨rfl, Z2, p2, s2, by simp only [List.append_assoc]⟩)
      simp only [List.append_assoc] at this
      refine this.mono ?_
      rintro _ _ _ ⟨rfl, Z2, p2, s2, rfl⟩
      simp only [not_true_eq_false, not_false_eq_true, decide_true, decide_false, Bool.not_true, Bool.not_false, false_implies, true_implies, and_true, true_and, Bool.false_eq_true, Bool.true_eq_false, implies_true, Bool.not_not, Classical.not_not, go_sem, Int.reduceToNat, List.take_nil, Nat.zero_mul, Nat.reduceEqDiff, Nat.reduceAdd, Nat.reduceLT, Nat.reduceLeDiff, Nat.reduceMul, ↓reduceIte, reduceCtorEq]
      exact Fin.plain (fin Z2 p2 s2)
    · have : Bk = [] := List.eq_nil_of_length_eq_zero (by omega)
      subst this
      have := fin U (by rw [List.append_nil]) sU
      exact Fin.plain (by simpa using this)
    · have : U = [] := List.eq_nil_of_length_eq_zero (by omega)
      subst this
      exact Fin.plain (by simpa using fin Bk (.refl _) sB)
end
end Go.Proofs.YtfngcejaphhmmaaGreatDoor
/- Contracts: a stable sort by a comparison, of the library: at most 60 ascending numbers. -/
namespace Go.Proofs.YtfngcejaphhmmaaGreatDoor
open Go.Abs Go.Ds
set_option linter.unusedSimpArgs false
set_option linter.unusedVariables false
set_option maxRecDepth 20000
set_option maxHeartbeats 4000000
section
variable {Hp : List Int → List AB} {n r g : Nat} {cb : List (Nat × Nat)} {cf : Int → Int → Int} {d : Int → Int} {B : Int}
theorem insSort_ (hE : SortE Hp n r g cb cf d B) {c len : Nat} (hl : len ≤ 1000000) {X S Y : List Int} {a b : Nat} (ha : a = X.length) (hb : b = X.length + S.length) (hlen : len = X.length + S.length + Y.length) (rS : ∀ x ∈ S, 0 ≤ x ∧ x < B) (hS : Asc S) {K : AV → List AB → Prop}
    (hk : ∀ Z : List Int, Z.Perm S → Srt d Z → K (.tup []) (Hp (X ++ (Z ++ Y)))) :
    CallWp Tryz.prog n_slices_insertionSortCmpFunc_int [.sl n 0 len c, .i .i64 a, .i .i64 b, .fn g [] cb] (Hp (X ++ (S ++ Y))) K := by
  refine call_slices_insertionSortCmpFunc_int (by simp) ?_
  simp only [c_slices_insertionSortCmpFunc_int, not_true_eq_false, not_false_eq_true, decide_true, decide_false, Bool.not_true, Bool.not_false, false_implies, true_implies, and_true, true_and, Bool.false_eq_true, Bool.true_eq_false, implies_true, Bool.not_not, Classical.not_not, go_sem, Int.reduceToNat, List.take_nil, Nat.zero_mul, Nat.reduceEqDiff, Nat.reduceAdd, Nat.reduceLT, Nat.reduceLeDiff, Nat.reduceMul, ↓reduceIte, reduceCtorEq]
  have z0 : X ++ (S ++ Y) = X ++ (S.take 1 ++ (S.drop 1 ++ Y)) := by rw [← List.append_assoc (S.take 1), List.take_append_drop]
  have s1 : Srt d (S.take 1) := by
    match S with
    | [] => exact List.Pairwise.nil
    | x :: S => exact List.pairwise_singleton _ _
  refine ⟨by omega, ?_⟩
  rw [z0]
  refine loop_intro (fun i : Nat × List Int => ⟨[(0, .sl n 0 len c), (1, .i .i64 a), (2, .i .i64 b), (3, .fn g [] cb), (8, .i .i64 (a + i.1 : Nat))], Hp (X ++ (i.2 ++ (S.drop i.1 ++ Y)))⟩)
    (fun i => 1 ≤ i.1 ∧ (i.1 = 1 ∨ i.1 ≤ S.length) ∧ i.2.Perm (S.take i.1) ∧ Srt d i.2) (fun i => S.length - i.1) (1, S.take 1) ⟨Nat.le_refl _, .inl rfl, .refl _, s1⟩ (Wk.keep (by
      intro p hp
      simp only [List.mem_cons, List.not_mem_nil, or_false] at hp
      rcases hp with rfl | rfl | rfl | rfl | rfl <;> simp [look_cons])) ?_
  rintro ⟨k, Z⟩ ⟨k1, k2, pZ, sZ⟩
  simp only at k1 k2 pZ sZ
  simp only [l1_slices_insertionSortCmpFunc_int, not_true_eq_false, not_false_eq_true, decide_true, decide_false, Bool.not_true, Bool.not_false, false_implies, true_implies, and_true, true_and, Bool.false_eq_true, Bool.true_eq_false, implies_true, Bool.not_not, Classical.not_not, go_sem, Int.reduceToNat, List.take_nil, Nat.zero_mul, Nat.reduceEqDiff, Nat.reduceAdd, Nat.reduceLT, Nat.reduceLeDiff, Nat.reduceMul, ↓reduceIte, reduceCtorEq]
  refine ⟨fun hlt => ?_, fun hge => ?_⟩
  · have hkS : k < S.length := by omega
    have lZ : Z.length = k := by rw [pZ.length_eq, List.length_take]; omega
    have hz : X ++ (Z ++ (S.drop k ++ Y)) = mvR X Z (S.drop (k + 1) ++ Y) S[k] Z.length := by
      rw [drop_cons hkS]; simp only [mvR, List.take_length, List.drop_length, List.nil_append, List.cons_append]
    have rE := rS _ (List.getElem_mem hkS)
    have rZ : ∀ x ∈ Z, (0 ≤ x ∧ x < B) ∧ x < S[k] := fun x hx => by
      have hx2 := pZ.mem_iff.1 hx
      refine ⟨rS x (List.mem_of_mem_take hx2), ?_⟩
      obtain ⟨q, hq, rfl⟩ := List.getElem_of_mem hx2
      rw [List.length_take] at hq
      rw [List.getElem_take]
      exact List.pairwise_iff_getElem.1 hS q k (by omega) hkS (by omega)
    generalize hY : S.drop (k + 1) ++ Y = Y1 at hz
    have hlY : X.length + k + Y1.length + 1 = len := by rw [← hY, List.length_append, List.length_drop]; omega
    rw [hz]
    refine loop_intro (fun t : Nat => ⟨[(0, .sl n 0 len c), (1, .i .i64 a), (2, .i .i64 b), (3, .fn g [] cb), (8, .i .i64 (a + k : Nat)), (9, .i .i64 (a + t : Nat))], Hp (mvR X Z Y1 S[k] t)⟩)
      (fun t => t ≤ Z.length ∧ (t = Z.length ∨ ∃ q : t < Z.length, ltK d S[k] Z[t])) (fun t => t) Z.length ⟨Nat.le_refl _, .inl rfl⟩ (Wk.keep (by
        intro p hp
        simp only [List.mem_cons, List.not_mem_nil, or_false] at hp
        rcases hp with rfl | rfl | rfl | rfl | rfl | rfl <;> simp [look_cons, lZ])) ?_
    rintro t ⟨t1, t2⟩
    have hout : (t = 0 ∨ ∃ q : t - 1 < Z.length, ltK d Z[t - 1] S[k]) → (Z.take t ++ S[k] :: Z.drop t).Perm (S.take (k + 1)) ∧ Srt d (Z.take t ++ S[k] :: Z.drop t) ∧ mvR X Z Y1 S[k] t = X ++ ((Z.take t ++ S[k] :: Z.drop t) ++ (S.drop (k + 1) ++ Y)) := fun h => by
      refine ⟨?_, srt_ins sZ (srt_low sZ t1 h) (srt_high sZ t2), ?_⟩
      · rw [take_snoc hkS]
        exact (perm_ins Z S[k] t).trans ((List.Perm.cons _ pZ).trans (List.perm_append_comm (l₁ := [S[k]]) (l₂ := S.take k)))
      · rw [hY]; unfold mvR; simp only [List.append_assoc, List.cons_append]
    simp only [l0_slices_insertionSortCmpFunc_int, not_true_eq_false, not_false_eq_true, decide_true, decide_false, Bool.not_true, Bool.not_false, false_implies, true_implies, and_true, true_and, Bool.false_eq_true, Bool.true_eq_false, implies_true, Bool.not_not, Classical.not_not, go_sem, Int.reduceToNat, List.take_nil, Nat.zero_mul, Nat.reduceEqDiff, Nat.reduceAdd, Nat.reduceLT, Nat.reduceLeDiff, Nat.reduceMul, ↓reduceIte, reduceCtorEq]
    refine ⟨fun hj => ?_, fun hj => ?_⟩
    · obtain ⟨u, rfl⟩ : ∃ u, t = u + 1 := ⟨t - 1, by omega⟩
      have huZ : u < Z.length := by omega
      have e1 := mvR_x' (X := X) (Y := Y1) (x := S[k]) (R := Z) (t := u + 1) (by omega)
      have e2 := mvR_l (X := X) (Y := Y1) (x := S[k]) (R := Z) (t := u) (by omega)
      have e3 := mvR_pred (X := X) (Y := Y1) (x := S[k]) (R := Z) (t := u) (by omega)
      have hl1 := mvR_len X Z Y1 S[k] (u + 1)
      have i1 : (a + (u + 1) : Nat) = X.length + (u + 1) := by omega
      have i2 : (((X.length + (u + 1) : Nat) : Int) - 1).toNat = X.length + u := by omega
      have g1 : X.length + (u + 1) < (mvR X Z Y1 S[k] (u + 1)).length := by omega
      have g2 : ∀ v, X.length + u < ((mvR X Z Y1 S[k] (u + 1)).set (X.length + (u + 1)) v).length := fun v => by rw [List.length_set]; omega
      obtain ⟨rZu, ltu⟩ := rZ _ (List.getElem_mem huZ)
      have hc := hE.lt _ _ rE rZu
      simp only [i1, i2, hE.at_, rdI' e1, rdI' e2, lenI, hl1, not_true_eq_false, not_false_eq_true, decide_true, decide_false, Bool.not_true, Bool.not_false, false_implies, true_implies, and_true, true_and, Bool.false_eq_true, Bool.true_eq_false, implies_true, Bool.not_not, Classical.not_not, go_sem, Int.reduceToNat, List.take_nil, Nat.zero_mul, Nat.reduceEqDiff, Nat.reduceAdd, Nat.reduceLT, Nat.reduceLeDiff, Nat.reduceMul, ↓reduceIte, reduceCtorEq]
      refine ⟨by omega, by omega, by omega, by omega, by omega, onCall.by (hE.cmp _ _ _ rE rZu) ?_⟩
      simp only [i2, hE.at_, hE.set_, rdI' e1, rdI' e2, splI g1, splI (g2 _), e3, lenI, List.length_set, hl1, not_true_eq_false, not_false_eq_true, decide_true, decide_false, Bool.not_true, Bool.not_false, false_implies, true_implies, and_true, true_and, Bool.false_eq_true, Bool.true_eq_false, implies_true, Bool.not_not, Classical.not_not, go_sem, Int.reduceToNat, List.take_nil, Nat.zero_mul, Nat.reduceEqDiff, Nat.reduceAdd, Nat.reduceLT, Nat.reduceLeDiff, Nat.reduceMul, ↓reduceIte, reduceCtorEq]
      refine ⟨fun hcl => ?_, fun hcl => ?_⟩
      · repeat' first
          | omega
          | (refine ⟨u, ⟨⟨by omega, .inr ⟨huZ, .inl (hc.1 hcl)⟩⟩, by omega⟩, Wk.keep ?_⟩
             intro p hp
             simp only [List.mem_cons, List.not_mem_nil, or_false] at hp
             rcases hp with rfl | rfl | rfl | rfl | rfl | rfl <;> simp [look_cons] <;> omega)
          | refine ⟨?_, ?_⟩
          | intro _
      · have q1 : ¬ d S[k] < d Z[u] := fun h => hcl (hc.2 h)
        obtain ⟨h1, h2, h3⟩ := hout (.inr ⟨by omega, by simp only [Nat.add_sub_cancel]; unfold ltK; omega⟩)
        refine ⟨by omega, (k + 1, Z.take (u + 1) ++ S[k] :: Z.drop (u + 1)), ⟨⟨by simp only; omega, .inr (by simp only; omega), h1, h2⟩, by simp only; omega⟩, ?_⟩
        rw [h3]
        refine Wk.keep ?_
        intro p hp
        simp only [List.mem_cons, List.not_mem_nil, or_false] at hp
        rcases hp with rfl | rfl | rfl | rfl | rfl <;> simp [look_cons] <;> omega
    · obtain ⟨h1, h2, h3⟩ := hout (.inl (by omega))
      refine ⟨by omega, (k + 1, Z.take t ++ S[k] :: Z.drop t), ⟨⟨by simp only; omega, .inr (by simp only; omega), h1, h2⟩, by simp only; omega⟩, ?_⟩
      rw [h3]
      refine Wk.keep ?_
      intro p hp
      simp only [List.mem_cons, List.not_mem_nil, or_false] at hp
      rcases hp with rfl | rfl | rfl | rfl | rfl <;> simp [look_cons] <;> omega
  · have e1 : S.take k = S := List.take_of_length_le (by omega)
    have e2 : S.drop k = [] := List.drop_of_length_le (by omega)
    rw [e1] at pZ
    rw [e2]
    exact Fin.plain (hk Z pZ sZ)
def StR (d : Int → Int) (W Z : List Int) : Prop := Z.Perm W ∧ Srt d Z
theorem asc_sep {W : List Int} (hW : Asc W) (i : Nat) : Sep (W.take i) (W.drop i) := by
  have : Asc (W.take i ++ W.drop i) := by rw [List.take_append_drop]; exact hW
  exact fun x hx y hy => (List.pairwise_append.1 this).2.2 x hx y hy
theorem asc_take {W : List Int} (hW : Asc W) (i : Nat) : Asc (W.take i) := List.Pairwise.sublist (List.take_sublist ..) hW
theorem asc_drop {W : List Int} (hW : Asc W) (i : Nat) : Asc (W.drop i) := List.Pairwise.sublist (List.drop_sublist ..) hW
end
end Go.Proofs.YtfngcejaphhmmaaGreatDoor
/- Contracts: a stable sort by a comparison, of the library: blocks of twenty, then two at a time. -/
namespace Go.Proofs.YtfngcejaphhmmaaGreatDoor
open Go.Abs Go.Ds
set_option linter.unusedSimpArgs false
set_option linter.unusedVariables false
set_option maxRecDepth 20000
set_option maxHeartbeats 4000000
section
variable {Hp : List Int → List AB} {n r g : Nat} {cb : List (Nat × Nat)} {cf : Int → Int → Int} {d : Int → Int} {B : Int}
theorem StR.len {W Z : List Int} (h : StR d W Z) : Z.length = W.length := h.1.length_eq
theorem StR.nil {Z : List Int} (h : StR d [] Z) : Z = [] := List.perm_nil.1 h.1
theorem StR.sep {W W' Z Z' : List Int} (h : StR d W Z) (h' : StR d W' Z') (hs : Sep W W') : Sep Z Z' := fun x hx y hy => hs x (h.1.mem_iff.1 hx) y (h'.1.mem_iff.1 hy)
theorem StR.rng {W Z : List Int} (h : StR d W Z) (hW : ∀ x ∈ W, 0 ≤ x ∧ x < B) : ∀ x ∈ Z, 0 ≤ x ∧ x < B := fun x hx => hW x (h.1.mem_iff.1 hx)
theorem rng_take {W : List Int} (hW : ∀ x ∈ W, 0 ≤ x ∧ x < B) (i : Nat) : ∀ x ∈ W.take i, 0 ≤ x ∧ x < B := fun x hx => hW x (List.mem_of_mem_take hx)
theorem rng_drop {W : List Int} (hW : ∀ x ∈ W, 0 ≤ x ∧ x < B) (i : Nat) : ∀ x ∈ W.drop i, 0 ≤ x ∧ x < B := fun x hx => hW x (List.mem_of_mem_drop hx)
theorem take_add (W : List Int) (i j : Nat) : W.take (i + j) = W.take i ++ (W.drop i).take j := by
  rw [List.take_add]
def StM (d : Int → Int) (W : List Int) (i : Nat × List Int × List Int × List Int) : Prop :=
  (i.1 = 20 ∧ StR d (W.take 20) i.2.1 ∧ StR d ((W.drop 20).take 20) i.2.2.1 ∧ StR d (W.drop 40) i.2.2.2) ∨ (i.1 = 40 ∧ StR d (W.take 40) i.2.1 ∧ i.2.2.1 = [] ∧ StR d (W.drop 40) i.2.2.2) ∨ (i.1 = 80 ∧ StR d W i.2.1 ∧ i.2.2.1 = [] ∧ i.2.2.2 = [])
theorem StM.len {W : List Int} {i : Nat × List Int × List Int × List Int} (h : StM d W i) : i.2.1.length + i.2.2.1.length + i.2.2.2.length = W.length := by
  rcases h with ⟨_, h1, h2, h3⟩ | ⟨_, h1, h2, h3⟩ | ⟨_, h1, h2, h3⟩
  · rw [h1.len, h2.len, h3.len, List.length_take, List.length_take, List.length_drop, List.length_drop]; omega
  · rw [h1.len, h2, h3.len, List.length_take, List.length_drop, List.length_nil]; omega
  · rw [h1.len, h2, h3, List.length_nil]; omega
theorem flat_len (Zs : List (List Int)) (h : ∀ Z ∈ Zs, Z.length = 20) : Zs.flatten.length = 20 * Zs.length := by
  induction Zs with
  | nil => rfl
  | cons Z Zs ih =>
    rw [List.flatten_cons, List.length_append, h Z (by simp), ih fun Y hY => h Y (by simp [hY]), List.length_cons]; omega
def Blks (d : Int → Int) (W : List Int) (Zs : List (List Int)) : Prop := ∀ q (h : q < Zs.length), StR d ((W.drop (20 * q)).take 20) Zs[q]
theorem Blks.len {W : List Int} {Zs : List (List Int)} (h : Blks d W Zs) (hl : 20 * Zs.length ≤ W.length) : Zs.flatten.length = 20 * Zs.length := by
  refine flat_len Zs fun Z hZ => ?_
  obtain ⟨q, hq, rfl⟩ := List.getElem_of_mem hZ
  rw [(h q hq).len, List.length_take, List.length_drop]; omega
theorem Blks.snoc {W : List Int} {Zs : List (List Int)} {Z : List Int} (h : Blks d W Zs) (hZ : StR d ((W.drop (20 * Zs.length)).take 20) Z) : Blks d W (Zs ++ [Z]) := by
  intro q hq
  rw [List.length_append, List.length_cons, List.length_nil] at hq
  rcases Nat.lt_or_ge q Zs.length with h1 | h1
  · rw [List.getElem_append_left h1]; exact h q h1
  · have e : q = Zs.length := by omega
    subst e
    rw [List.getElem_append_right (Nat.le_refl _)]
    simpa using hZ
theorem blks_all {W : List Int} {Zs : List (List Int)} {Z : List Int} (hW : W.length ≤ 60) (h : Blks d W Zs) (hl : 20 * Zs.length ≤ W.length) (hl2 : W.length < 20 * Zs.length + 20) (hZ : StR d (W.drop (20 * Zs.length)) Z) :
    ∃ A B' C, Zs.flatten ++ Z = A ++ (B' ++ C) ∧ StM d W (20, A, B', C) := by
  have nilS : ∀ {k : Nat}, W.length ≤ k → StR d (W.drop k) [] := fun {k} hk => by
    rw [List.drop_of_length_le hk]; exact ⟨.refl _, List.Pairwise.nil⟩
  have nilT : ∀ {k : Nat}, W.length ≤ k → StR d ((W.drop k).take 20) [] := fun {k} hk => by
    rw [List.drop_of_length_le hk, List.take_nil]; exact ⟨.refl _, List.Pairwise.nil⟩
  match Zs, h, hl, hl2, hZ with
  | [], h, hl, hl2, hZ =>
    simp only [List.length_nil, Nat.mul_zero, List.drop_zero, Nat.zero_add] at hl2 hZ
    exact ⟨Z, [], [], by simp, .inl ⟨rfl, by rw [List.take_of_length_le (by omega)]; exact hZ, nilT (by omega), nilS (by omega)⟩⟩
  | [Z0], h, hl, hl2, hZ =>
    simp only [List.length_cons, List.length_nil, Nat.mul_one, Nat.zero_add] at hl hl2 hZ
    refine ⟨Z0, Z, [], by simp, .inl ⟨rfl, h 0 (by simp), ?_, nilS (by omega)⟩⟩
    rw [List.take_of_length_le (by rw [List.length_drop]; omega)]; exact hZ
  | [Z0, Z1], h, hl, hl2, hZ =>
    simp only [List.length_cons, List.length_nil, Nat.zero_add, Nat.reduceAdd, Nat.reduceMul] at hl hl2 hZ
    exact ⟨Z0, Z1, Z, by simp, .inl ⟨rfl, h 0 (by simp), h 1 (by simp), hZ⟩⟩
  | [Z0, Z1, Z2], h, hl, hl2, hZ =>
    simp only [List.length_cons, List.length_nil, Nat.zero_add, Nat.reduceAdd, Nat.reduceMul] at hl hl2 hZ
    have e0 : Z = [] := by
      rw [List.drop_of_length_le (by omega)] at hZ; exact hZ.nil
    subst e0
    have h2 : StR d ((W.drop 40).take 20) Z2 := h 2 (by simp)
    rw [List.take_of_length_le (by rw [List.length_drop]; omega)] at h2
    exact ⟨Z0, Z1, Z2, by simp, .inl ⟨rfl, h 0 (by simp), h 1 (by simp), h2⟩⟩
  | _ :: _ :: _ :: _ :: Zs, h, hl, hl2, hZ =>
    simp only [List.length_cons] at hl; omega
theorem stable_ (hE : SortE Hp n r g cb cf d B) {c : Nat} {W : List Int} (hl : W.length ≤ 60) (rW : ∀ x ∈ W, 0 ≤ x ∧ x < B) (hW : Asc W) {K : AV → List AB → Prop}
    (hk : ∀ Z : List Int, Z.Perm W → Srt d Z → K (.tup []) (Hp Z)) :
    CallWp Tryz.prog n_slices_stableCmpFunc_int [.sl n 0 W.length c, .i .i64 W.length, .fn g [] cb] (Hp W) K := by
  refine call_slices_stableCmpFunc_int (by simp) ?_
  simp only [c_slices_stableCmpFunc_int, not_true_eq_false, not_false_eq_true, decide_true, decide_false, Bool.not_true, Bool.not_false, false_implies, true_implies, and_true, true_and, Bool.false_eq_true, Bool.true_eq_false, implies_true, Bool.not_not, Classical.not_not, go_sem, Int.reduceToNat, List.take_nil, Nat.zero_mul, Nat.reduceEqDiff, Nat.reduceAdd, Nat.reduceLT, Nat.reduceLeDiff, Nat.reduceMul, ↓reduceIte, reduceCtorEq]
  refine loop_intro (fun Zs : List (List Int) => ⟨[(0, .sl n 0 W.length c), (1, .i .i64 W.length), (2, .fn g [] cb), (6, .i .i64 20), (7, .i .i64 (20 * Zs.length : Nat)), (8, .i .i64 (20 * Zs.length + 20 : Nat))], Hp (Zs.flatten ++ W.drop (20 * Zs.length))⟩)
    (fun Zs => 20 * Zs.length ≤ W.length ∧ Blks d W Zs) (fun Zs => W.length - 20 * Zs.length) [] ⟨by simp, fun q h => absurd h (by simp)⟩ (Wk.keep (by
      intro p hp
      simp only [List.mem_cons, List.not_mem_nil, or_false] at hp
      rcases hp with rfl | rfl | rfl | rfl | rfl | rfl <;> simp [look_cons])) ?_
  rintro Zs ⟨hz1, hz2⟩
  have hfl := hz2.len hz1
  simp only [l2_slices_stableCmpFunc_int, not_true_eq_false, not_false_eq_true, decide_true, decide_false, Bool.not_true, Bool.not_false, false_implies, true_implies, and_true, true_and, Bool.false_eq_true, Bool.true_eq_false, implies_true, Bool.not_not, Classical.not_not, go_sem, Int.reduceToNat, List.take_nil, Nat.zero_mul, Nat.reduceEqDiff, Nat.reduceAdd, Nat.reduceLT, Nat.reduceLeDiff, Nat.reduceMul, ↓reduceIte, reduceCtorEq]
  refine ⟨fun hb => ?_, fun hb => ?_⟩
  · have e0 : W.drop (20 * Zs.length) = (W.drop (20 * Zs.length)).take 20 ++ W.drop (20 * Zs.length + 20) := by
      rw [← List.drop_drop, List.take_append_drop]
    have lS : ((W.drop (20 * Zs.length)).take 20).length = 20 := by rw [List.length_take, List.length_drop]; omega
    have lY : (W.drop (20 * Zs.length + 20)).length = W.length - (20 * Zs.length + 20) := List.length_drop ..
    rw [e0]
    refine insSort_ hE (by omega) (by omega) (by omega) (by omega) (rng_take (rng_drop rW _) _) (asc_take (asc_drop hW _) _) fun Z pZ sZ => ?_
    simp only [not_true_eq_false, not_false_eq_true, decide_true, decide_false, Bool.not_true, Bool.not_false, false_implies, true_implies, and_true, true_and, Bool.false_eq_true, Bool.true_eq_false, implies_true, Bool.not_not, Classical.not_not, go_sem, Int.reduceToNat, List.take_nil, Nat.zero_mul, Nat.reduceEqDiff, Nat.reduceAdd, Nat.reduceLT, Nat.reduceLeDiff, Nat.reduceMul, ↓reduceIte, reduceCtorEq]
    refine ⟨by omega, Zs ++ [Z], ⟨⟨by simp only [List.length_append, List.length_cons, List.length_nil]; omega, hz2.snoc ⟨pZ, sZ⟩⟩, by simp only [List.length_append, List.length_cons, List.length_nil]; omega⟩, ?_⟩
    have e2 : Zs.flatten ++ (Z ++ W.drop (20 * Zs.length + 20)) = (Zs ++ [Z]).flatten ++ W.drop (20 * (Zs ++ [Z]).length) := by
      rw [List.flatten_append, List.append_assoc, List.length_append]; simp [Nat.mul_add]
    rw [e2]
    refine Wk.keep ?_
    intro p hp
    simp only [List.mem_cons, List.not_mem_nil, or_false] at hp
    rcases hp with rfl | rfl | rfl | rfl | rfl | rfl <;> simp [look_cons] <;> omega
  · have hS := insSort_ hE (c := c) (len := W.length) (by omega) (X := Zs.flatten) (S := W.drop (20 * Zs.length)) (Y := []) (a := 20 * Zs.length) (b := W.length) (by omega) (by rw [List.length_drop]; omega) (by rw [List.length_drop, List.length_nil]; omega) (rng_drop rW _) (asc_drop hW _) (K := fun v σ => v = .tup [] ∧ ∃ Z : List Int, StR d (W.drop (20 * Zs.length)) Z ∧ σ = Hp (Zs.flatten ++ Z)) (fun Z pZ sZ => ⟨rfl, Z, ⟨pZ, sZ⟩, by rw [List.append_nil]⟩)
    rw [List.append_nil] at hS
    refine hS.mono ?_
    rintro _ _ _ ⟨rfl, Z, hZ, rfl⟩
    obtain ⟨A0, B0, C0, e1, hM0⟩ := blks_all hl hz2 hz1 (by omega) hZ
    rw [e1]
    simp only [not_true_eq_false, not_false_eq_true, decide_true, decide_false, Bool.not_true, Bool.not_false, false_implies, true_implies, and_true, true_and, Bool.false_eq_true, Bool.true_eq_false, implies_true, Bool.not_not, Classical.not_not, go_sem, Int.reduceToNat, List.take_nil, Nat.zero_mul, Nat.reduceEqDiff, Nat.reduceAdd, Nat.reduceLT, Nat.reduceLeDiff, Nat.reduceMul, ↓reduceIte, reduceCtorEq]
    refine loop_intro (fun i : Nat × List Int × List Int × List Int => ⟨[(0, .sl n 0 W.length c), (1, .i .i64 W.length), (2, .fn g [] cb), (6, .i .i64 i.1)], Hp (i.2.1 ++ (i.2.2.1 ++ i.2.2.2))⟩)
      (StM d W) (fun i => 80 - i.1) (20, A0, B0, C0) hM0 (Wk.keep (by
        intro p hp
        simp only [List.mem_cons, List.not_mem_nil, or_false] at hp
        rcases hp with rfl | rfl | rfl | rfl <;> simp [look_cons])) ?_
    rintro ⟨bs, A, B', C⟩ hM
    have hlen := hM.len
    simp only at hlen
    simp only [l1_slices_stableCmpFunc_int, not_true_eq_false, not_false_eq_true, decide_true, decide_false, Bool.not_true, Bool.not_false, false_implies, true_implies, and_true, true_and, Bool.false_eq_true, Bool.true_eq_false, implies_true, Bool.not_not, Classical.not_not, go_sem, Int.reduceToNat, List.take_nil, Nat.zero_mul, Nat.reduceEqDiff, Nat.reduceAdd, Nat.reduceLT, Nat.reduceLeDiff, Nat.reduceMul, ↓reduceIte, reduceCtorEq]
    refine ⟨fun hlt => ?_, fun hge => ?_⟩
    · rcases hM with ⟨rfl, h1, h2, h3⟩ | ⟨rfl, h1, rfl, h3⟩ | ⟨rfl, _⟩
      · simp only at h1 h2 h3
        have l1 := h1.len; have l2 := h2.len; have l3 := h3.len
        rw [List.length_take] at l1
        rw [List.length_take, List.length_drop] at l2
        rw [List.length_drop] at l3
        have sepAB : Sep A B' := h1.sep h2 fun x hx y hy => asc_sep hW 20 x hx y (List.mem_of_mem_take hy)
        have next : ∀ Z : List Int, Z.Perm (A ++ B') → Srt d Z → StM d W (40, Z, [], C) := fun Z pZ sZ => by
          refine .inr (.inl ⟨rfl, ⟨?_, sZ⟩, rfl, h3⟩)
          rw [show (40 : Nat) = 20 + 20 by rfl, take_add]
          exact pZ.trans (h1.1.append h2.1)
        refine ⟨by omega, ?_⟩
        refine loop_intro (fun i : Nat × List Int × List Int => ⟨[(0, .sl n 0 W.length c), (1, .i .i64 W.length), (2, .fn g [] cb), (6, .i .i64 20), (7, .i .i64 (40 * i.1 : Nat)), (8, .i .i64 (40 * i.1 + 40 : Nat))], Hp (i.2.1 ++ (i.2.2 ++ C))⟩)
          (fun i => (i.1 = 0 ∧ i.2.1 = A ∧ i.2.2 = B') ∨ (i.1 = 1 ∧ 40 ≤ W.length ∧ i.2.2 = [] ∧ StM d W (40, i.2.1, [], C))) (fun i => 1 - i.1) (0, A, B') (.inl ⟨rfl, rfl, rfl⟩) (Wk.keep (by
            intro p hp
            simp only [List.mem_cons, List.not_mem_nil, or_false] at hp
            rcases hp with rfl | rfl | rfl | rfl | rfl | rfl <;> simp [look_cons])) ?_
        rintro ⟨k, A1, B1⟩ hk1
        simp only at hk1
        rcases hk1 with ⟨rfl, rfl, rfl⟩ | ⟨rfl, hW4, rfl, hM1⟩
        · simp only [l0_slices_stableCmpFunc_int, Nat.mul_zero, Nat.zero_add, not_true_eq_false, not_false_eq_true, decide_true, decide_false, Bool.not_true, Bool.not_false, false_implies, true_implies, and_true, true_and, Bool.false_eq_true, Bool.true_eq_false, implies_true, Bool.not_not, Classical.not_not, go_sem, Int.reduceToNat, List.take_nil, Nat.zero_mul, Nat.reduceEqDiff, Nat.reduceAdd, Nat.reduceLT, Nat.reduceLeDiff, Nat.reduceMul, ↓reduceIte, reduceCtorEq]
          refine ⟨fun hb4 => ?_, fun hb4 => ?_⟩
          · refine ⟨by omega, ?_⟩
            have hm := symMerge_ hE (c := c) (len := W.length) (by omega) _ (X := []) (L := A1) (R := B1) (Y := C) (a := 0) (m := 20) (b := 40) (Nat.le_refl _) rfl (by simp only [List.length_nil]; omega) (by simp only [List.length_nil]; omega) (by omega) (by omega) (by simp only [List.length_nil]; omega) (h1.rng (rng_take rW _)) (h2.rng (rng_take (rng_drop rW _) _)) sepAB h1.2 h2.2 (K := fun v σ => v = .tup [] ∧ ∃ Z : List Int, Z.Perm (A1 ++ B1) ∧ Srt d Z ∧ σ = Hp (Z ++ C)) (fun Z p s => ⟨rfl, Z, p, s, rfl⟩)
            refine hm.mono ?_
            rintro _ _ _ ⟨rfl, Z, pZ, sZ, rfl⟩
            simp only [Int.reduceMul, not_true_eq_false, not_false_eq_true, decide_true, decide_false, Bool.not_true, Bool.not_false, false_implies, true_implies, and_true, true_and, Bool.false_eq_true, Bool.true_eq_false, implies_true, Bool.not_not, Classical.not_not, go_sem, Int.reduceToNat, List.take_nil, Nat.zero_mul, Nat.reduceEqDiff, Nat.reduceAdd, Nat.reduceLT, Nat.reduceLeDiff, Nat.reduceMul, ↓reduceIte, reduceCtorEq]
            refine ⟨by omega, by omega, (1, Z, []), ⟨.inr ⟨rfl, by omega, rfl, next Z pZ sZ⟩, by omega⟩, Wk.keep ?_⟩
            intro p hp
            simp only [List.mem_cons, List.not_mem_nil, or_false] at hp
            rcases hp with rfl | rfl | rfl | rfl | rfl | rfl <;> simp [look_cons]
          · have e3 : C = [] := List.eq_nil_of_length_eq_zero (by omega)
            subst e3
            refine ⟨by omega, fun hm2 => ?_, fun hm2 => absurd (by omega) hm2⟩
            have hm := symMerge_ hE (c := c) (len := W.length) (by omega) _ (X := []) (L := A1) (R := B1) (Y := []) (a := 0) (m := 20) (b := W.length) (Nat.le_refl _) rfl (by simp only [List.length_nil]; omega) (by simp only [List.length_nil]; omega) (by omega) (by omega) (by simp only [List.length_nil]; omega) (h1.rng (rng_take rW _)) (h2.rng (rng_take (rng_drop rW _) _)) sepAB h1.2 h2.2 (K := fun v σ => v = .tup [] ∧ ∃ Z : List Int, Z.Perm (A1 ++ B1) ∧ Srt d Z ∧ σ = Hp (Z ++ [])) (fun Z p s => ⟨rfl, Z, p, s, rfl⟩)
            refine hm.mono ?_
            rintro _ _ _ ⟨rfl, Z, pZ, sZ, rfl⟩
            simp only [Int.reduceMul, not_true_eq_false, not_false_eq_true, decide_true, decide_false, Bool.not_true, Bool.not_false, false_implies, true_implies, and_true, true_and, Bool.false_eq_true, Bool.true_eq_false, implies_true, Bool.not_not, Classical.not_not, go_sem, Int.reduceToNat, List.take_nil, Nat.zero_mul, Nat.reduceEqDiff, Nat.reduceAdd, Nat.reduceLT, Nat.reduceLeDiff, Nat.reduceMul, ↓reduceIte, reduceCtorEq]
            refine ⟨by omega, (40, Z, [], []), ⟨next Z pZ sZ, by simp only; omega⟩, ?_⟩
            simp only [List.append_nil]
            refine Wk.keep ?_
            intro p hp
            simp only [List.mem_cons, List.not_mem_nil, or_false] at hp
            rcases hp with rfl | rfl | rfl | rfl <;> simp [look_cons]
        · simp only [l0_slices_stableCmpFunc_int, Nat.mul_one, Nat.reduceAdd, not_true_eq_false, not_false_eq_true, decide_true, decide_false, Bool.not_true, Bool.not_false, false_implies, true_implies, and_true, true_and, Bool.false_eq_true, Bool.true_eq_false, implies_true, Bool.not_not, Classical.not_not, go_sem, Int.reduceToNat, List.take_nil, Nat.zero_mul, Nat.reduceEqDiff, Nat.reduceAdd, Nat.reduceLT, Nat.reduceLeDiff, Nat.reduceMul, ↓reduceIte, reduceCtorEq]
          refine ⟨fun hb4 => absurd hb4 (by omega), fun hb4 => ⟨by omega, fun hm2 => absurd hm2 (by omega), fun hm2 => ⟨by omega, (40, A1, [], C), ⟨hM1, by simp only; omega⟩, Wk.keep ?_⟩⟩⟩
          intro p hp
          simp only [List.mem_cons, List.not_mem_nil, or_false] at hp
          rcases hp with rfl | rfl | rfl | rfl <;> simp [look_cons]
      · simp only at h1 h3
        have l1 := h1.len; have l3 := h3.len
        rw [List.length_take] at l1
        rw [List.length_drop] at l3
        have sepAC : Sep A C := h1.sep h3 (asc_sep hW 40)
        simp only [List.nil_append, Int.reduceMul, not_true_eq_false, not_false_eq_true, decide_true, decide_false, Bool.not_true, Bool.not_false, false_implies, true_implies, and_true, true_and, Bool.false_eq_true, Bool.true_eq_false, implies_true, Bool.not_not, Classical.not_not, go_sem, Int.reduceToNat, List.take_nil, Nat.zero_mul, Nat.reduceEqDiff, Nat.reduceAdd, Nat.reduceLT, Nat.reduceLeDiff, Nat.reduceMul, ↓reduceIte, reduceCtorEq]
        refine ⟨by omega, ?_⟩
        refine loop_count 0 (fun i => ⟨[(0, .sl n 0 W.length c), (1, .i .i64 W.length), (2, .fn g [] cb), (6, .i .i64 40), (7, .i .i64 0), (8, .i .i64 80)], Hp (A ++ C)⟩) (fun _ => True) trivial (Wk.keep (by simp [look_cons])) fun i hi _ => ?_
        simp only [l0_slices_stableCmpFunc_int, not_true_eq_false, not_false_eq_true, decide_true, decide_false, Bool.not_true, Bool.not_false, false_implies, true_implies, and_true, true_and, Bool.false_eq_true, Bool.true_eq_false, implies_true, Bool.not_not, Classical.not_not, go_sem, Int.reduceToNat, List.take_nil, Nat.zero_mul, Nat.reduceEqDiff, Nat.reduceAdd, Nat.reduceLT, Nat.reduceLeDiff, Nat.reduceMul, ↓reduceIte, reduceCtorEq]
        refine ⟨fun h => absurd h (by omega), fun _ => ⟨by omega, fun hm2 => ?_, fun hm2 => absurd (by omega) hm2⟩⟩
        have hm := symMerge_ hE (c := c) (len := W.length) (by omega) _ (X := []) (L := A) (R := C) (Y := []) (a := 0) (m := 40) (b := W.length) (Nat.le_refl _) rfl (by simp only [List.length_nil]; omega) (by simp only [List.length_nil]; omega) (by omega) (by omega) (by simp only [List.length_nil]; omega) (h1.rng (rng_take rW _)) (h3.rng (rng_drop rW _)) sepAC h1.2 h3.2 (K := fun v σ => v = .tup [] ∧ ∃ Z : List Int, Z.Perm (A ++ C) ∧ Srt d Z ∧ σ = Hp Z) (fun Z p s => ⟨rfl, Z, p, s, by rw [List.append_nil]; rfl⟩)
        rw [List.append_nil] at hm
        refine hm.mono ?_
        rintro _ _ _ ⟨rfl, Z, pZ, sZ, rfl⟩
        simp only [Int.reduceMul, not_true_eq_false, not_false_eq_true, decide_true, decide_false, Bool.not_true, Bool.not_false, false_implies, true_implies, and_true, true_and, Bool.false_eq_true, Bool.true_eq_false, implies_true, Bool.not_not, Classical.not_not, go_sem, Int.reduceToNat, List.take_nil, Nat.zero_mul, Nat.reduceEqDiff, Nat.reduceAdd, Nat.reduceLT, Nat.reduceLeDiff, Nat.reduceMul, ↓reduceIte, reduceCtorEq]
        refine ⟨by omega, (80, Z, [], []), ⟨.inr (.inr ⟨rfl, ⟨?_, sZ⟩, rfl, rfl⟩), by simp only; omega⟩, ?_⟩
        · have := pZ.trans (h1.1.append h3.1)
          rwa [List.take_append_drop] at this
        · simp only [List.append_nil]
          refine Wk.keep ?_
          intro p hp
          simp only [List.mem_cons, List.not_mem_nil, or_false] at hp
          rcases hp with rfl | rfl | rfl | rfl <;> simp [look_cons]
      · omega
    · have fin : ∃ Z : List Int, StR d W Z ∧ A ++ (B' ++ C) = Z := by
        rcases hM with ⟨rfl, h1, h2, h3⟩ | ⟨rfl, h1, rfl, h3⟩ | ⟨rfl, h1, rfl, rfl⟩
        · simp only at h1 h2 h3
          have l2 := h2.len; have l3 := h3.len
          rw [List.length_take, List.length_drop] at l2
          rw [List.length_drop] at l3
          have e2 : B' = [] := List.eq_nil_of_length_eq_zero (by omega)
          have e3 : C = [] := List.eq_nil_of_length_eq_zero (by omega)
          subst e2 e3
          rw [List.take_of_length_le (by omega)] at h1
          exact ⟨A, h1, by simp⟩
        · simp only at h1 h3
          have l3 := h3.len
          rw [List.length_drop] at l3
          have e3 : C = [] := List.eq_nil_of_length_eq_zero (by omega)
          subst e3
          rw [List.take_of_length_le (by omega)] at h1
          exact ⟨A, h1, by simp⟩
        · exact ⟨A, h1, by simp⟩
      obtain ⟨Z, hZ, e⟩ := fin
      rw [e]
      exact Fin.plain (hk Z hZ.1 hZ.2)
theorem sortStable_ (hE : SortE Hp n r g cb cf d B) {c : Nat} {W : List Int} (hl : W.length ≤ 60) (rW : ∀ x ∈ W, 0 ≤ x ∧ x < B) (hW : Asc W) {K : AV → List AB → Prop}
    (hk : ∀ Z : List Int, Z.Perm W → Srt d Z → K (.tup []) (Hp Z)) :
    CallWp Tryz.prog n_slices_SortStableFunc_int [.sl n 0 W.length c, .fn g [] cb] (Hp W) K := by
  refine call_slices_SortStableFunc_int (by simp) ?_
  simp only [c_slices_SortStableFunc_int, not_true_eq_false, not_false_eq_true, decide_true, decide_false, Bool.not_true, Bool.not_false, false_implies, true_implies, and_true, true_and, Bool.false_eq_true, Bool.true_eq_false, implies_true, Bool.not_not, Classical.not_not, go_sem, Int.reduceToNat, List.take_nil, Nat.zero_mul, Nat.reduceEqDiff, Nat.reduceAdd, Nat.reduceLT, Nat.reduceLeDiff, Nat.reduceMul, ↓reduceIte, reduceCtorEq]
  refine stable_ hE hl rW hW fun Z p s => ?_
  simp only [not_true_eq_false, not_false_eq_true, decide_true, decide_false, Bool.not_true, Bool.not_false, false_implies, true_implies, and_true, true_and, Bool.false_eq_true, Bool.true_eq_false, implies_true, Bool.not_not, Classical.not_not, go_sem, Int.reduceToNat, List.take_nil, Nat.zero_mul, Nat.reduceEqDiff, Nat.reduceAdd, Nat.reduceLT, Nat.reduceLeDiff, Nat.reduceMul, ↓reduceIte, reduceCtorEq]
  exact Fin.plain (hk Z p s)
end
end Go.Proofs.YtfngcejaphhmmaaGreatDoor
