import Derived.Test.YtmphblbpofnpaaaS70
namespace Go.Proofs.Ytmphblbpofnpaaa
open Go.Abs Go.Ds
set_option linter.unusedSimpArgs false
set_option linter.unusedVariables false
set_option maxRecDepth 20000
set_option maxHeartbeats 4000000
theorem getL {X L R Y : List Int} {k : Nat} (t : Nat) (h : t < L.length) (hk : k = X.length + t) : (X ++ (L ++ (R ++ Y)))[k]? = some L[t] := by
  subst hk
  rw [List.getElem?_append_right (by omega), Nat.add_sub_cancel_left, List.getElem?_append_left h, List.getElem?_eq_getElem h]
theorem getR {X L R Y : List Int} {k : Nat} (t : Nat) (h : t < R.length) (hk : k = X.length + L.length + t) : (X ++ (L ++ (R ++ Y)))[k]? = some R[t] := by
  subst hk
  rw [List.getElem?_append_right (by omega), show X.length + L.length + t - X.length = L.length + t by omega, List.getElem?_append_right (by omega), Nat.add_sub_cancel_left, List.getElem?_append_left h, List.getElem?_eq_getElem h]
section
variable {Hp : List Int → List AB} {n r g : Nat} {cb : List (Nat × Nat)} {cf : Int → Int → Int} {d : Int → Int} {B : Int}
theorem sym_left (hE : SortE Hp n r g cb cf d B) {X R Y : List Int} {x : Int} {c a m b : Nat} (ha : a = X.length) (hm : m = X.length + 1) (hb : b = X.length + 1 + R.length) {len : Nat} (hlen : len = X.length + 1 + R.length + Y.length) (hl : len ≤ 1000000)
    (hx : 0 ≤ x ∧ x < B) (hrng : ∀ y ∈ R, 0 ≤ y ∧ y < B) (hs : ∀ y ∈ R, x < y) (hR : Srt d R) {K : AV → List AB → Prop}
    (hk : ∀ Z : List Int, Z.Perm (x :: R) → Srt d Z → K (.tup []) (Hp (X ++ (Z ++ Y)))) :
    CallWp Try.prog n_slices_symMergeCmpFunc_int [.sl n 0 len c, .i .i64 a, .i .i64 m, .i .i64 b, .fn g [] cb] (Hp (X ++ (x :: (R ++ Y)))) K := by
  refine call_slices_symMergeCmpFunc_int (by simp) ?_
  simp only [c_slices_symMergeCmpFunc_int, not_true_eq_false, not_false_eq_true, decide_true, decide_false, Bool.not_true, Bool.not_false, false_implies, true_implies, and_true, true_and, Bool.false_eq_true, Bool.true_eq_false, implies_true, Bool.not_not, Classical.not_not, go_sem, Int.reduceToNat, List.take_nil, Nat.zero_mul, Nat.reduceEqDiff, Nat.reduceAdd, Nat.reduceLT, Nat.reduceLeDiff, Nat.reduceMul, ↓reduceIte, reduceCtorEq]
  refine ⟨by omega, fun _ => ?_, fun h => absurd (by omega) h⟩
  refine loop_intro (fun i : Nat × Nat => ⟨[(0, .sl n 0 len c), (1, .i .i64 a), (4, .fn g [] cb), (10, .i .i64 (m + i.1 : Nat)), (11, .i .i64 (m + i.2 : Nat))], Hp (X ++ (x :: (R ++ Y)))⟩)
    (fun i => i.1 ≤ i.2 ∧ i.2 ≤ R.length ∧ (i.1 = 0 ∨ ∃ q : i.1 - 1 < R.length, ltK d R[i.1 - 1] x) ∧ (i.2 = R.length ∨ ∃ q : i.2 < R.length, ltK d x R[i.2])) (fun i => i.2 - i.1) (0, R.length) ⟨Nat.zero_le _, Nat.le_refl _, .inl rfl, .inl rfl⟩ (Wk.keep (by
      intro p hp
      simp only [List.mem_cons, List.not_mem_nil, or_false] at hp
      rcases hp with rfl | rfl | rfl | rfl | rfl <;> simp [look_cons] <;> omega)) ?_
  rintro ⟨p, q⟩ ⟨h1, h2, h3, h4⟩
  simp only at h1 h2 h3 h4
  simp only [l4_slices_symMergeCmpFunc_int, not_true_eq_false, not_false_eq_true, decide_true, decide_false, Bool.not_true, Bool.not_false, false_implies, true_implies, and_true, true_and, Bool.false_eq_true, Bool.true_eq_false, implies_true, Bool.not_not, Classical.not_not, go_sem, Int.reduceToNat, List.take_nil, Nat.zero_mul, Nat.reduceEqDiff, Nat.reduceAdd, Nat.reduceLT, Nat.reduceLeDiff, Nat.reduceMul, ↓reduceIte, reduceCtorEq]
  refine ⟨fun hlt => ?_, fun hge => ?_⟩
  · have hh : (((m + p : Nat) : Int) + ((m + q : Nat) : Int)) / 2 = ((m + (p + q) / 2 : Nat) : Int) := by omega
    have hmid : (p + q) / 2 < R.length := by omega
    have e1 : (X ++ (x :: (R ++ Y)))[m + (p + q) / 2]? = some (R[(p + q) / 2]) := getR (L := [x]) _ hmid (by simp only [List.length_cons, List.length_nil]; omega)
    have e2 : (X ++ (x :: (R ++ Y)))[a]? = some x := getL (L := [x]) 0 (by simp) (by omega)
    have hl1 : (X ++ (x :: (R ++ Y))).length = len := by simp; omega
    have hy := hrng _ (List.getElem_mem hmid)
    have hxy := hs _ (List.getElem_mem hmid)
    have hc := hE.lt _ _ hy hx
    simp only [hh, hE.at_, rdI' e1, rdI' e2, lenI, hl1, not_true_eq_false, not_false_eq_true, decide_true, decide_false, Bool.not_true, Bool.not_false, false_implies, true_implies, and_true, true_and, Bool.false_eq_true, Bool.true_eq_false, implies_true, Bool.not_not, Classical.not_not, go_sem, Int.reduceToNat, List.take_nil, Nat.zero_mul, Nat.reduceEqDiff, Nat.reduceAdd, Nat.reduceLT, Nat.reduceLeDiff, Nat.reduceMul, ↓reduceIte, reduceCtorEq]
    refine ⟨by omega, by omega, by omega, by omega, by omega, by omega, by omega, by omega, onCall.by (hE.cmp _ _ _ hy hx) ?_⟩
    simp only [not_true_eq_false, not_false_eq_true, decide_true, decide_false, Bool.not_true, Bool.not_false, false_implies, true_implies, and_true, true_and, Bool.false_eq_true, Bool.true_eq_false, implies_true, Bool.not_not, Classical.not_not, go_sem, Int.reduceToNat, List.take_nil, Nat.zero_mul, Nat.reduceEqDiff, Nat.reduceAdd, Nat.reduceLT, Nat.reduceLeDiff, Nat.reduceMul, ↓reduceIte, reduceCtorEq]
    refine ⟨fun hcl => ⟨by omega, (((p + q) / 2 + 1, q) : Nat × Nat), ⟨⟨by simp only; omega, h2, .inr ⟨by simp only; omega, .inl (by simpa using hc.1 hcl)⟩, h4⟩, by simp only; omega⟩, ?_⟩, fun hcl => ⟨((p, (p + q) / 2) : Nat × Nat), ⟨⟨by simp only; omega, by simp only; omega, h3, .inr ⟨hmid, ?_⟩⟩, by simp only; omega⟩, ?_⟩⟩
    · refine Wk.keep ?_
      intro p hp
      simp only [List.mem_cons, List.not_mem_nil, or_false] at hp
      rcases hp with rfl | rfl | rfl | rfl | rfl <;> simp [look_cons] <;> omega
    · have : ¬ d R[(p + q) / 2] < d x := fun h => hcl (hc.2 h)
      show ltK d x R[(p + q) / 2]
      unfold ltK; omega
    · refine Wk.keep ?_
      intro p hp
      simp only [List.mem_cons, List.not_mem_nil, or_false] at hp
      rcases hp with rfl | rfl | rfl | rfl | rfl <;> simp [look_cons] <;> omega
  · have e : p = q := by omega
    subst e
    have z0 : Hp (X ++ (x :: (R ++ Y))) = Hp (mvR X R Y x 0) := by simp [mvR]
    rw [z0]
    refine loop_count p (fun t => ⟨[(0, .sl n 0 len c), (10, .i .i64 (m + p : Nat)), (13, .i .i64 (a + t : Nat))], Hp (mvR X R Y x t)⟩) (fun _ => True) trivial (Wk.keep (by
      intro p hp
      simp only [List.mem_cons, List.not_mem_nil, or_false] at hp
      rcases hp with rfl | rfl | rfl <;> simp [look_cons])) fun t htp _ => ?_
    simp only [l3_slices_symMergeCmpFunc_int, hE.at_, not_true_eq_false, not_false_eq_true, decide_true, decide_false, Bool.not_true, Bool.not_false, false_implies, true_implies, and_true, true_and, Bool.false_eq_true, Bool.true_eq_false, implies_true, Bool.not_not, Classical.not_not, go_sem, Int.reduceToNat, List.take_nil, Nat.zero_mul, Nat.reduceEqDiff, Nat.reduceAdd, Nat.reduceLT, Nat.reduceLeDiff, Nat.reduceMul, ↓reduceIte, reduceCtorEq]
    refine ⟨by omega, fun ht => ?_, fun ht => ?_⟩
    · have htR : t < R.length := by omega
      have e1 := mvR_x' (X := X) (Y := Y) (x := x) (R := R) (t := t) (by omega)
      have e2 := mvR_r (X := X) (Y := Y) (x := x) htR
      have e3 := mvR_succ (X := X) (Y := Y) (x := x) htR
      have hl1 := mvR_len X R Y x t
      have i1 : (a + t : Nat) = X.length + t := by omega
      have i2 : (((X.length + t : Nat) : Int) + 1).toNat = X.length + t + 1 := by omega
      have g1 : X.length + t < (mvR X R Y x t).length := by omega
      have g2 : ∀ v, X.length + t + 1 < ((mvR X R Y x t).set (X.length + t) v).length := fun v => by rw [List.length_set]; omega
      simp only [i1, i2, hE.at_, hE.set_, rdI' e1, rdI' e2, splI g1, splI (g2 _), e3, lenI, List.length_set, hl1, not_true_eq_false, not_false_eq_true, decide_true, decide_false, Bool.not_true, Bool.not_false, false_implies, true_implies, and_true, true_and, Bool.false_eq_true, Bool.true_eq_false, implies_true, Bool.not_not, Classical.not_not, go_sem, Int.reduceToNat, List.take_nil, Nat.zero_mul, Nat.reduceEqDiff, Nat.reduceAdd, Nat.reduceLT, Nat.reduceLeDiff, Nat.reduceMul, ↓reduceIte, reduceCtorEq]
      repeat' first
        | omega
        | (refine Wk.keep ?_
           intro p hp
           simp only [List.mem_cons, List.not_mem_nil, or_false] at hp
           rcases hp with rfl | rfl | rfl <;> simp [look_cons] <;> omega)
        | refine ⟨?_, ?_⟩
        | intro _
    · have e : t = p := by omega
      subst e
      refine Fin.plain ?_
      have := hk (R.take t ++ x :: R.drop t) (perm_ins R x t) (srt_ins hR (srt_low hR h2 h3) (srt_high hR h4))
      simpa [mvR] using this
theorem sym_right (hE : SortE Hp n r g cb cf d B) {X L Y : List Int} {y : Int} {c a m b : Nat} (ha : a = X.length) (hm : m = X.length + L.length) (hb : b = X.length + L.length + 1) (hL1 : L.length ≠ 1) {len : Nat} (hlen : len = X.length + L.length + 1 + Y.length) (hl : len ≤ 1000000)
    (hy : 0 ≤ y ∧ y < B) (hrng : ∀ x ∈ L, 0 ≤ x ∧ x < B) (hs : ∀ x ∈ L, x < y) (hL : Srt d L) {K : AV → List AB → Prop}
    (hk : ∀ Z : List Int, Z.Perm (L ++ [y]) → Srt d Z → K (.tup []) (Hp (X ++ (Z ++ Y)))) :
    CallWp Try.prog n_slices_symMergeCmpFunc_int [.sl n 0 len c, .i .i64 a, .i .i64 m, .i .i64 b, .fn g [] cb] (Hp (X ++ (L ++ (y :: Y)))) K := by
  refine call_slices_symMergeCmpFunc_int (by simp) ?_
  simp only [c_slices_symMergeCmpFunc_int, not_true_eq_false, not_false_eq_true, decide_true, decide_false, Bool.not_true, Bool.not_false, false_implies, true_implies, and_true, true_and, Bool.false_eq_true, Bool.true_eq_false, implies_true, Bool.not_not, Classical.not_not, go_sem, Int.reduceToNat, List.take_nil, Nat.zero_mul, Nat.reduceEqDiff, Nat.reduceAdd, Nat.reduceLT, Nat.reduceLeDiff, Nat.reduceMul, ↓reduceIte, reduceCtorEq]
  refine ⟨by omega, fun h => absurd h (by omega), fun _ => ⟨by omega, fun _ => ?_, fun h => absurd (by omega) h⟩⟩
  refine loop_intro (fun i : Nat × Nat => ⟨[(0, .sl n 0 len c), (2, .i .i64 m), (4, .fn g [] cb), (14, .i .i64 (a + i.1 : Nat)), (15, .i .i64 (a + i.2 : Nat))], Hp (X ++ (L ++ (y :: Y)))⟩)
    (fun i => i.1 ≤ i.2 ∧ i.2 ≤ L.length ∧ (i.1 = 0 ∨ ∃ q : i.1 - 1 < L.length, ltK d L[i.1 - 1] y) ∧ (i.2 = L.length ∨ ∃ q : i.2 < L.length, ltK d y L[i.2])) (fun i => i.2 - i.1) (0, L.length) ⟨Nat.zero_le _, Nat.le_refl _, .inl rfl, .inl rfl⟩ (Wk.keep (by
      intro p hp
      simp only [List.mem_cons, List.not_mem_nil, or_false] at hp
      rcases hp with rfl | rfl | rfl | rfl | rfl <;> simp [look_cons] <;> omega)) ?_
  rintro ⟨p, q⟩ ⟨h1, h2, h3, h4⟩
  simp only at h1 h2 h3 h4
  simp only [l2_slices_symMergeCmpFunc_int, not_true_eq_false, not_false_eq_true, decide_true, decide_false, Bool.not_true, Bool.not_false, false_implies, true_implies, and_true, true_and, Bool.false_eq_true, Bool.true_eq_false, implies_true, Bool.not_not, Classical.not_not, go_sem, Int.reduceToNat, List.take_nil, Nat.zero_mul, Nat.reduceEqDiff, Nat.reduceAdd, Nat.reduceLT, Nat.reduceLeDiff, Nat.reduceMul, ↓reduceIte, reduceCtorEq]
  refine ⟨fun hlt => ?_, fun hge => ?_⟩
  · have hh : (((a + p : Nat) : Int) + ((a + q : Nat) : Int)) / 2 = ((a + (p + q) / 2 : Nat) : Int) := by omega
    have hmid : (p + q) / 2 < L.length := by omega
    have e1 : (X ++ (L ++ y :: Y))[a + (p + q) / 2]? = some (L[(p + q) / 2]) := getL (R := [y]) _ hmid (by omega)
    have e2 : (X ++ (L ++ (y :: Y)))[m]? = some y := getR (R := [y]) 0 (by simp) (by omega)
    have hl1 : (X ++ (L ++ (y :: Y))).length = len := by simp; omega
    have hx := hrng _ (List.getElem_mem hmid)
    have hxy := hs _ (List.getElem_mem hmid)
    have hc := hE.lt _ _ hy hx
    simp only [hh, hE.at_, rdI' e1, rdI' e2, lenI, hl1, not_true_eq_false, not_false_eq_true, decide_true, decide_false, Bool.not_true, Bool.not_false, false_implies, true_implies, and_true, true_and, Bool.false_eq_true, Bool.true_eq_false, implies_true, Bool.not_not, Classical.not_not, go_sem, Int.reduceToNat, List.take_nil, Nat.zero_mul, Nat.reduceEqDiff, Nat.reduceAdd, Nat.reduceLT, Nat.reduceLeDiff, Nat.reduceMul, ↓reduceIte, reduceCtorEq]
    refine ⟨by omega, by omega, by omega, by omega, by omega, by omega, by omega, by omega, onCall.by (hE.cmp _ _ _ hy hx) ?_⟩
    simp only [not_true_eq_false, not_false_eq_true, decide_true, decide_false, Bool.not_true, Bool.not_false, false_implies, true_implies, and_true, true_and, Bool.false_eq_true, Bool.true_eq_false, implies_true, Bool.not_not, Classical.not_not, go_sem, Int.reduceToNat, List.take_nil, Nat.zero_mul, Nat.reduceEqDiff, Nat.reduceAdd, Nat.reduceLT, Nat.reduceLeDiff, Nat.reduceMul, ↓reduceIte, reduceCtorEq]
    refine ⟨fun hcl => ⟨by omega, (((p + q) / 2 + 1, q) : Nat × Nat), ⟨⟨by simp only; omega, h2, .inr ⟨by simp only; omega, ?_⟩, h4⟩, by simp only; omega⟩, ?_⟩, fun hcl => ⟨((p, (p + q) / 2) : Nat × Nat), ⟨⟨by simp only; omega, by simp only; omega, h3, .inr ⟨hmid, .inl (hc.1 hcl)⟩⟩, by simp only; omega⟩, ?_⟩⟩
    · have : ¬ d y < d L[(p + q) / 2] := fun h => hcl (hc.2 h)
      simp only [Nat.add_sub_cancel]
      unfold ltK; omega
    · refine Wk.keep ?_
      intro p hp
      simp only [List.mem_cons, List.not_mem_nil, or_false] at hp
      rcases hp with rfl | rfl | rfl | rfl | rfl <;> simp [look_cons] <;> omega
    · refine Wk.keep ?_
      intro p hp
      simp only [List.mem_cons, List.not_mem_nil, or_false] at hp
      rcases hp with rfl | rfl | rfl | rfl | rfl <;> simp [look_cons] <;> omega
  · have e : p = q := by omega
    subst e
    have z0 : Hp (X ++ (L ++ (y :: Y))) = Hp (mvR X L Y y L.length) := by simp [mvR]
    rw [z0]
    refine loop_intro (fun t : Nat => ⟨[(0, .sl n 0 len c), (14, .i .i64 (a + p : Nat)), (17, .i .i64 (a + t : Nat))], Hp (mvR X L Y y t)⟩) (fun t => p ≤ t ∧ t ≤ L.length) (fun t => t) L.length ⟨h2, Nat.le_refl _⟩ (Wk.keep (by
      intro p hp
      simp only [List.mem_cons, List.not_mem_nil, or_false] at hp
      rcases hp with rfl | rfl | rfl <;> simp [look_cons] <;> omega)) ?_
    rintro t ⟨ht1, ht2⟩
    simp only [l1_slices_symMergeCmpFunc_int, hE.at_, not_true_eq_false, not_false_eq_true, decide_true, decide_false, Bool.not_true, Bool.not_false, false_implies, true_implies, and_true, true_and, Bool.false_eq_true, Bool.true_eq_false, implies_true, Bool.not_not, Classical.not_not, go_sem, Int.reduceToNat, List.take_nil, Nat.zero_mul, Nat.reduceEqDiff, Nat.reduceAdd, Nat.reduceLT, Nat.reduceLeDiff, Nat.reduceMul, ↓reduceIte, reduceCtorEq]
    refine ⟨fun ht => ?_, fun ht => ?_⟩
    · obtain ⟨u, rfl⟩ : ∃ u, t = u + 1 := ⟨t - 1, by omega⟩
      have e1 := mvR_x' (X := X) (Y := Y) (x := y) (R := L) (t := u + 1) (by omega)
      have e2 := mvR_l (X := X) (Y := Y) (x := y) (R := L) (t := u) (by omega)
      have e3 := mvR_pred (X := X) (Y := Y) (x := y) (R := L) (t := u) (by omega)
      have hl1 := mvR_len X L Y y (u + 1)
      have i1 : (a + (u + 1) : Nat) = X.length + (u + 1) := by omega
      have i2 : (((X.length + (u + 1) : Nat) : Int) - 1).toNat = X.length + u := by omega
      have g1 : X.length + (u + 1) < (mvR X L Y y (u + 1)).length := by omega
      have g2 : ∀ v, X.length + u < ((mvR X L Y y (u + 1)).set (X.length + (u + 1)) v).length := fun v => by rw [List.length_set]; omega
      simp only [i1, i2, hE.at_, hE.set_, rdI' e1, rdI' e2, splI g1, splI (g2 _), e3, lenI, List.length_set, hl1, not_true_eq_false, not_false_eq_true, decide_true, decide_false, Bool.not_true, Bool.not_false, false_implies, true_implies, and_true, true_and, Bool.false_eq_true, Bool.true_eq_false, implies_true, Bool.not_not, Classical.not_not, go_sem, Int.reduceToNat, List.take_nil, Nat.zero_mul, Nat.reduceEqDiff, Nat.reduceAdd, Nat.reduceLT, Nat.reduceLeDiff, Nat.reduceMul, ↓reduceIte, reduceCtorEq]
      repeat' first
        | omega
        | (refine ⟨u, ⟨⟨by omega, by omega⟩, by omega⟩, Wk.keep ?_⟩
           intro p hp
           simp only [List.mem_cons, List.not_mem_nil, or_false] at hp
           rcases hp with rfl | rfl | rfl <;> simp [look_cons] <;> omega)
        | refine ⟨?_, ?_⟩
        | intro _
    · have e : t = p := by omega
      subst e
      refine Fin.plain ?_
      have := hk (L.take t ++ y :: L.drop t) ((perm_ins L y t).trans (List.perm_append_comm (l₁ := [y]) (l₂ := L))) (srt_ins hL (srt_low hL h2 h3) (srt_high hL h4))
      simpa [mvR] using this
end
end Go.Proofs.Ytmphblbpofnpaaa
