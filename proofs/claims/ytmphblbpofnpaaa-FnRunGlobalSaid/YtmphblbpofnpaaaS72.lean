import Derived.Test.YtmphblbpofnpaaaS71
namespace Go.Proofs.Ytmphblbpofnpaaa
open Go.Abs Go.Ds
set_option linter.unusedSimpArgs false
set_option linter.unusedVariables false
set_option maxRecDepth 20000
set_option maxHeartbeats 4000000
section
variable {Hp : List Int → List AB} {n r g : Nat} {cb : List (Nat × Nat)} {cf : Int → Int → Int} {d : Int → Int} {B : Int}
theorem symMerge_ (hE : SortE Hp n r g cb cf d B) {c len : Nat} (hl : len ≤ 1000000) : ∀ (s : Nat) {X L R Y : List Int} {a m b : Nat}, L.length + R.length ≤ s → a = X.length → m = X.length + L.length → b = X.length + L.length + R.length → 1 ≤ L.length → 1 ≤ R.length → len = X.length + L.length + R.length + Y.length →
    (∀ x ∈ L, 0 ≤ x ∧ x < B) → (∀ x ∈ R, 0 ≤ x ∧ x < B) → Sep L R → Srt d L → Srt d R → ∀ {K : AV → List AB → Prop}, (∀ Z : List Int, Z.Perm (L ++ R) → Srt d Z → K (.tup []) (Hp (X ++ (Z ++ Y)))) →
    CallWp Try.prog n_slices_symMergeCmpFunc_int [.sl n 0 len c, .i .i64 a, .i .i64 m, .i .i64 b, .fn g [] cb] (Hp (X ++ (L ++ (R ++ Y)))) K := by
  intro s
  induction s with
  | zero => intro X L R Y a m b h0 _ _ _ hL; omega
  | succ s ih =>
  intro X L R Y a m b hs ha hm hb hL hR hlen rL rR sep sL sR K hk
  by_cases hL1 : L.length = 1
  · match L, hL1 with
    | [x], _ =>
      exact sym_left hE ha hm hb hlen hl (rL x (by simp)) rR (fun y hy => sep x (by simp) y hy) sR fun Z hp hs => hk Z hp hs
  by_cases hR1 : R.length = 1
  · match R, hR1 with
    | [y], _ =>
      exact sym_right hE ha hm hb hL1 hlen hl (rR y (by simp)) rL (fun x hx => sep x hx y (by simp)) sL fun Z hp hs => hk Z hp hs
  refine call_slices_symMergeCmpFunc_int (by simp) ?_
  obtain ⟨mid, hmid⟩ : ∃ mid, mid = (a + b) / 2 := ⟨_, rfl⟩
  have hh : ((a : Int) + b) / 2 = (mid : Int) := by omega
  simp only [c_slices_symMergeCmpFunc_int, hh, not_true_eq_false, not_false_eq_true, decide_true, decide_false, Bool.not_true, Bool.not_false, false_implies, true_implies, and_true, true_and, Bool.false_eq_true, Bool.true_eq_false, implies_true, Bool.not_not, Classical.not_not, go_sem, Int.reduceToNat, List.take_nil, Nat.zero_mul, Nat.reduceEqDiff, Nat.reduceAdd, Nat.reduceLT, Nat.reduceLeDiff, Nat.reduceMul, ↓reduceIte, reduceCtorEq]
  refine ⟨by omega, fun h => absurd h (by omega), fun _ => ⟨by omega, fun h => absurd h (by omega), fun _ => ?_⟩⟩
  refine ⟨by omega, by omega, by omega, by omega, by omega, ?_⟩
  refine seq_join (fun i : Nat × Nat => ⟨[(0, .sl n 0 len c), (1, .i .i64 a), (2, .i .i64 m), (3, .i .i64 b), (4, .fn g [] cb), (18, .i .i64 mid), (19, .i .i64 (mid + m : Nat)), (20, .i .i64 (a + i.1 : Nat)), (21, .i .i64 (a + i.2 : Nat))], Hp (X ++ (L ++ (R ++ Y)))⟩)
    (fun i => (mid < m ∧ a + i.1 + b = mid + m ∧ a + i.2 = mid) ∨ (m ≤ mid ∧ i.1 = 0 ∧ a + i.2 = m)) ?_ ?_
  · simp only [not_true_eq_false, not_false_eq_true, decide_true, decide_false, Bool.not_true, Bool.not_false, false_implies, true_implies, and_true, true_and, Bool.false_eq_true, Bool.true_eq_false, implies_true, Bool.not_not, Classical.not_not, go_sem, Int.reduceToNat, List.take_nil, Nat.zero_mul, Nat.reduceEqDiff, Nat.reduceAdd, Nat.reduceLT, Nat.reduceLeDiff, Nat.reduceMul, ↓reduceIte, reduceCtorEq]
    refine ⟨fun h => ⟨by omega, kJ_intro (mid + m - b - a, mid - a) (.inl ⟨h, by simp only; omega, by simp only; omega⟩) (Wk.keep ?_)⟩, fun h => kJ_intro (0, m - a) (.inr ⟨by omega, rfl, by simp only; omega⟩) (Wk.keep ?_)⟩
    all_goals
      intro p hp
      simp only [List.mem_cons, List.not_mem_nil, or_false] at hp
      rcases hp with rfl | rfl | rfl | rfl | rfl | rfl | rfl | rfl | rfl <;> simp [look_cons] <;> omega
  rintro ⟨u0, w0⟩ hJ0
  simp only at hJ0
  obtain ⟨h, hh2⟩ : ∃ h, mid = a + h := ⟨mid - a, by omega⟩
  simp only [not_true_eq_false, not_false_eq_true, decide_true, decide_false, Bool.not_true, Bool.not_false, false_implies, true_implies, and_true, true_and, Bool.false_eq_true, Bool.true_eq_false, implies_true, Bool.not_not, Classical.not_not, go_sem, Int.reduceToNat, List.take_nil, Nat.zero_mul, Nat.reduceEqDiff, Nat.reduceAdd, Nat.reduceLT, Nat.reduceLeDiff, Nat.reduceMul, ↓reduceIte, reduceCtorEq]
  refine ⟨by omega, ?_⟩
  refine loop_intro (fun i : Nat × Nat => ⟨[(0, .sl n 0 len c), (1, .i .i64 a), (2, .i .i64 m), (3, .i .i64 b), (4, .fn g [] cb), (18, .i .i64 mid), (19, .i .i64 (mid + m : Nat)), (20, .i .i64 (a + i.1 : Nat)), (21, .i .i64 (a + i.2 : Nat)), (22, .i .i64 (mid + m - 1 : Nat))], Hp (X ++ (L ++ (R ++ Y)))⟩)
    (fun i => u0 ≤ i.1 ∧ i.1 ≤ i.2 ∧ i.2 ≤ w0 ∧ (i.1 = u0 ∨ ∃ (g : i.1 - 1 < L.length) (g' : h - i.1 < R.length), ltK d L[i.1 - 1] R[h - i.1]) ∧ (i.2 = w0 ∨ ∃ (g : i.2 < L.length) (g' : h - 1 - i.2 < R.length), ltK d R[h - 1 - i.2] L[i.2])) (fun i => i.2 - i.1) (u0, w0) ⟨Nat.le_refl _, by simp only; omega, Nat.le_refl _, .inl rfl, .inl rfl⟩ (Wk.keep (by
      intro p hp
      simp only [List.mem_cons, List.not_mem_nil, or_false] at hp
      rcases hp with rfl | rfl | rfl | rfl | rfl | rfl | rfl | rfl | rfl | rfl <;> simp [look_cons] <;> omega)) ?_
  rintro ⟨u, w⟩ ⟨j1, j2, j3, j4, j5⟩
  simp only at j1 j2 j3 j4 j5
  simp only [l0_slices_symMergeCmpFunc_int, not_true_eq_false, not_false_eq_true, decide_true, decide_false, Bool.not_true, Bool.not_false, false_implies, true_implies, and_true, true_and, Bool.false_eq_true, Bool.true_eq_false, implies_true, Bool.not_not, Classical.not_not, go_sem, Int.reduceToNat, List.take_nil, Nat.zero_mul, Nat.reduceEqDiff, Nat.reduceAdd, Nat.reduceLT, Nat.reduceLeDiff, Nat.reduceMul, ↓reduceIte, reduceCtorEq]
  refine ⟨fun hlt => ?_, fun hge => ?_⟩
  · obtain ⟨e, he⟩ : ∃ e, e = (u + w) / 2 := ⟨_, rfl⟩
    have hh3 : (((a + u : Nat) : Int) + ((a + w : Nat) : Int)) / 2 = ((a + e : Nat) : Int) := by omega
    have eL : e < L.length := by omega
    have eR : h - 1 - e < R.length := by omega
    have i1 : (((mid + m - 1 : Nat) : Int) - ((a + e : Nat) : Int)) = ((m + (h - 1 - e) : Nat) : Int) := by omega
    have e1 : (X ++ (L ++ (R ++ Y)))[a + e]? = some (L[e]) := getL _ eL (by omega)
    have e2 : (X ++ (L ++ (R ++ Y)))[m + (h - 1 - e)]? = some (R[h - 1 - e]) := getR _ eR (by omega)
    have hl1 : (X ++ (L ++ (R ++ Y))).length = len := by simp; omega
    have hx := rL _ (List.getElem_mem eL)
    have hy := rR _ (List.getElem_mem eR)
    have hxy := sep _ (List.getElem_mem eL) _ (List.getElem_mem eR)
    have hc := hE.lt _ _ hy hx
    simp only [hh3, i1, hE.at_, rdI' e1, rdI' e2, lenI, hl1, not_true_eq_false, not_false_eq_true, decide_true, decide_false, Bool.not_true, Bool.not_false, false_implies, true_implies, and_true, true_and, Bool.false_eq_true, Bool.true_eq_false, implies_true, Bool.not_not, Classical.not_not, go_sem, Int.reduceToNat, List.take_nil, Nat.zero_mul, Nat.reduceEqDiff, Nat.reduceAdd, Nat.reduceLT, Nat.reduceLeDiff, Nat.reduceMul, ↓reduceIte, reduceCtorEq]
    refine ⟨by omega, by omega, by omega, by omega, by omega, by omega, by omega, by omega, by omega, onCall.by (hE.cmp _ _ _ hy hx) ?_⟩
    simp only [not_true_eq_false, not_false_eq_true, decide_true, decide_false, Bool.not_true, Bool.not_false, false_implies, true_implies, and_true, true_and, Bool.false_eq_true, Bool.true_eq_false, implies_true, Bool.not_not, Classical.not_not, go_sem, Int.reduceToNat, List.take_nil, Nat.zero_mul, Nat.reduceEqDiff, Nat.reduceAdd, Nat.reduceLT, Nat.reduceLeDiff, Nat.reduceMul, ↓reduceIte, reduceCtorEq]
    refine ⟨fun hcl => ⟨by omega, ((e + 1, w) : Nat × Nat), ⟨⟨by simp only; omega, by simp only; omega, j3, .inr ⟨by simp only; omega, by simp only; omega, ?_⟩, j5⟩, by simp only; omega⟩, Wk.keep ?_⟩, fun hcl => ⟨((u, e) : Nat × Nat), ⟨⟨j1, by simp only; omega, by simp only; omega, j4, .inr ⟨eL, eR, .inl (hc.1 hcl)⟩⟩, by simp only; omega⟩, Wk.keep ?_⟩⟩
    · have q1 : ¬ d R[h - 1 - e] < d L[e] := fun h => hcl (hc.2 h)
      have q2 : h - (e + 1) = h - 1 - e := by omega
      simp only [Nat.add_sub_cancel, q2]
      unfold ltK; omega
    all_goals
      intro p hp
      simp only [List.mem_cons, List.not_mem_nil, or_false] at hp
      rcases hp with rfl | rfl | rfl | rfl | rfl | rfl | rfl | rfl | rfl | rfl <;> simp [look_cons] <;> omega
  · have euw : u = w := by omega
    subst euw
    have huL : u ≤ L.length := by omega
    have hvR : h - u ≤ R.length := by omega
    have c1 : ∀ x ∈ L.take u, ∀ y ∈ R.drop (h - u), ltK d x y := cross_low sL sR huL (by
      rcases j4 with j | ⟨q1, q2, q⟩
      · rcases hJ0 with ⟨_, g1, g2⟩ | ⟨_, g1, g2⟩
        · exact .inr (.inl (by omega))
        · exact .inl (by omega)
      · exact .inr (.inr ⟨q1, q2, q⟩))
    have c2 : ∀ x ∈ R.take (h - u), ∀ y ∈ L.drop u, ltK d x y := cross_high sL sR hvR (by
      rcases j5 with j | ⟨q1, q2, q⟩
      · rcases hJ0 with ⟨_, g1, g2⟩ | ⟨_, g1, g2⟩
        · exact .inr (.inl (by omega))
        · exact .inl (by omega)
      · refine .inr (.inr ⟨q1, by omega, ?_⟩)
        have : h - u - 1 = h - 1 - u := by omega
        simp only [this]; exact q)
    have eL : L = L.take u ++ L.drop u := (List.take_append_drop u L).symm
    have eR : R = R.take (h - u) ++ R.drop (h - u) := (List.take_append_drop (h - u) R).symm
    have lA : (L.take u).length = u := by rw [List.length_take]; omega
    have lU : (L.drop u).length = L.length - u := by rw [List.length_drop]
    have lV : (R.take (h - u)).length = h - u := by rw [List.length_take]; omega
    have lB : (R.drop (h - u)).length = R.length - (h - u) := by rw [List.length_drop]
    generalize L.take u = A at *
    generalize L.drop u = U at *
    generalize R.take (h - u) = V at *
    generalize R.drop (h - u) = Bk at *
    subst eL eR
    simp only [List.length_append] at *
    simp only [List.append_assoc] at *
    have sepAV : Sep A V := fun x hx y hy => sep x (List.mem_append_left _ hx) y (List.mem_append_left _ hy)
    have sepUB : Sep U Bk := fun x hx y hy => sep x (List.mem_append_right _ hx) y (List.mem_append_right _ hy)
    have sA : Srt d A := (List.pairwise_append.1 sL).1
    have sU : Srt d U := (List.pairwise_append.1 sL).2.1
    have sV : Srt d V := (List.pairwise_append.1 sR).1
    have sB : Srt d Bk := (List.pairwise_append.1 sR).2.1
    have i3 : (((mid + m : Nat) : Int) - ((a + u : Nat) : Int)) = ((m + V.length : Nat) : Int) := by omega
    simp only [i3, not_true_eq_false, not_false_eq_true, decide_true, decide_false, Bool.not_true, Bool.not_false, false_implies, true_implies, and_true, true_and, Bool.false_eq_true, Bool.true_eq_false, implies_true, Bool.not_not, Classical.not_not, go_sem, Int.reduceToNat, List.take_nil, Nat.zero_mul, Nat.reduceEqDiff, Nat.reduceAdd, Nat.reduceLT, Nat.reduceLeDiff, Nat.reduceMul, ↓reduceIte, reduceCtorEq]
    refine ⟨by omega, ?_⟩
    refine seq_join (fun _ : Unit => ⟨[(0, .sl n 0 len c), (1, .i .i64 a), (2, .i .i64 m), (3, .i .i64 b), (4, .fn g [] cb), (18, .i .i64 mid), (20, .i .i64 (a + u : Nat)), (24, .i .i64 (m + V.length : Nat))], Hp (X ++ (A ++ (V ++ (U ++ (Bk ++ Y)))))⟩) (fun _ => True) ?_ ?_
    · have keep : ∀ (T : List (Nat × AV)) (W : List Int), (∀ p ∈ [((0 : Nat), AV.sl n 0 len c), (1, .i .i64 a), (2, .i .i64 m), (3, .i .i64 b), (4, .fn g [] cb), (18, .i .i64 mid), (20, .i .i64 (a + u : Nat)), (24, .i .i64 (m + V.length : Nat))], Go.Abs.look T p.1 = p.2) → W = X ++ (A ++ (V ++ (U ++ (Bk ++ Y)))) → kJ (Hp (X ++ (A ++ (U ++ (V ++ (Bk ++ Y)))))).length 220 (fun _ : Unit => ⟨[(0, .sl n 0 len c), (1, .i .i64 a), (2, .i .i64 m), (3, .i .i64 b), (4, .fn g [] cb), (18, .i .i64 mid), (20, .i .i64 (a + u : Nat)), (24, .i .i64 (m + V.length : Nat))], Hp (X ++ (A ++ (V ++ (U ++ (Bk ++ Y)))))⟩) (fun _ => True) (retP (Hp (X ++ (A ++ (U ++ (V ++ (Bk ++ Y)))))).length [] K) .normal ⟨T, Hp W⟩ := fun T W h e => by
        subst e; exact kJ_intro () trivial (Wk.keep h)
      simp only [not_true_eq_false, not_false_eq_true, decide_true, decide_false, Bool.not_true, Bool.not_false, false_implies, true_implies, and_true, true_and, Bool.false_eq_true, Bool.true_eq_false, implies_true, Bool.not_not, Classical.not_not, go_sem, Int.reduceToNat, List.take_nil, Nat.zero_mul, Nat.reduceEqDiff, Nat.reduceAdd, Nat.reduceLT, Nat.reduceLeDiff, Nat.reduceMul, ↓reduceIte, reduceCtorEq]
      refine ⟨fun q1 => ⟨fun q2 => ?_, fun q2 => ?_⟩, fun q1 => ?_⟩
      · have e0 : X ++ (A ++ (U ++ (V ++ (Bk ++ Y)))) = (X ++ A) ++ (U ++ (V ++ (Bk ++ Y))) := by simp only [List.append_assoc]
        have := fun (K : AV → List AB → Prop) => rotate_ (K := K) hE (f := .fn g [] cb) rfl (X := X ++ A) (U := U) (V := V) (Y := Bk ++ Y) (c := c) (a := a + u) (m := m) (b := m + V.length) (by simp only [List.length_append]; omega) (by simp only [List.length_append]; omega) (by simp only [List.length_append]; omega) (by omega) (by omega) (len := len) (by simp only [List.length_append]; omega) hl
        simp only [List.append_assoc] at this
        refine this _ ?_
        simp only [not_true_eq_false, not_false_eq_true, decide_true, decide_false, Bool.not_true, Bool.not_false, false_implies, true_implies, and_true, true_and, Bool.false_eq_true, Bool.true_eq_false, implies_true, Bool.not_not, Classical.not_not, go_sem, Int.reduceToNat, List.take_nil, Nat.zero_mul, Nat.reduceEqDiff, Nat.reduceAdd, Nat.reduceLT, Nat.reduceLeDiff, Nat.reduceMul, ↓reduceIte, reduceCtorEq]
        refine keep _ _ ?_ rfl
        intro p hp
        simp only [List.mem_cons, List.not_mem_nil, or_false] at hp
        rcases hp with rfl | rfl | rfl | rfl | rfl | rfl | rfl | rfl <;> simp [look_cons]
      · refine keep _ _ ?_ ?_
        · intro p hp
          simp only [List.mem_cons, List.not_mem_nil, or_false] at hp
          rcases hp with rfl | rfl | rfl | rfl | rfl | rfl | rfl | rfl <;> simp [look_cons]
        · have : V = [] := List.eq_nil_of_length_eq_zero (by omega)
          subst this; rfl
      · refine keep _ _ ?_ ?_
        · intro p hp
          simp only [List.mem_cons, List.not_mem_nil, or_false] at hp
          rcases hp with rfl | rfl | rfl | rfl | rfl | rfl | rfl | rfl <;> simp [look_cons]
        · have : U = [] := List.eq_nil_of_length_eq_zero (by omega)
          subst this; rfl
    intro _ _
    refine seq_join (fun Z1 : List Int => ⟨[(0, .sl n 0 len c), (1, .i .i64 a), (2, .i .i64 m), (3, .i .i64 b), (4, .fn g [] cb), (18, .i .i64 mid), (20, .i .i64 (a + u : Nat)), (24, .i .i64 (m + V.length : Nat))], Hp (X ++ (Z1 ++ (U ++ (Bk ++ Y))))⟩) (fun Z1 => Z1.Perm (A ++ V) ∧ Srt d Z1) ?_ ?_
    · simp only [not_true_eq_false, not_false_eq_true, decide_true, decide_false, Bool.not_true, Bool.not_false, false_implies, true_implies, and_true, true_and, Bool.false_eq_true, Bool.true_eq_false, implies_true, Bool.not_not, Classical.not_not, go_sem, Int.reduceToNat, List.take_nil, Nat.zero_mul, Nat.reduceEqDiff, Nat.reduceAdd, Nat.reduceLT, Nat.reduceLeDiff, Nat.reduceMul, ↓reduceIte, reduceCtorEq]
      refine ⟨fun q1 => ⟨fun q2 => ?_, fun q2 => ?_⟩, fun q1 => ?_⟩
      · refine ih (X := X) (L := A) (R := V) (Y := U ++ (Bk ++ Y)) (by omega) ha (by omega) (by omega) (by omega) (by omega) (by simp only [List.length_append]; omega) (fun x hx => rL x (List.mem_append_left _ hx)) (fun x hx => rR x (List.mem_append_left _ hx)) sepAV sA sV fun Z hp hs => ?_
        simp only [not_true_eq_false, not_false_eq_true, decide_true, decide_false, Bool.not_true, Bool.not_false, false_implies, true_implies, and_true, true_and, Bool.false_eq_true, Bool.true_eq_false, implies_true, Bool.not_not, Classical.not_not, go_sem, Int.reduceToNat, List.take_nil, Nat.zero_mul, Nat.reduceEqDiff, Nat.reduceAdd, Nat.reduceLT, Nat.reduceLeDiff, Nat.reduceMul, ↓reduceIte, reduceCtorEq]
        refine kJ_intro Z ⟨hp, hs⟩ (Wk.keep ?_)
        intro p hp
        simp only [List.mem_cons, List.not_mem_nil, or_false] at hp
        rcases hp with rfl | rfl | rfl | rfl | rfl | rfl | rfl | rfl <;> simp [look_cons]
      · have : V = [] := List.eq_nil_of_length_eq_zero (by omega)
        subst this
        refine kJ_intro A ⟨by rw [List.append_nil], sA⟩ (Wk.keep ?_)
        intro p hp
        simp only [List.mem_cons, List.not_mem_nil, or_false] at hp
        rcases hp with rfl | rfl | rfl | rfl | rfl | rfl | rfl | rfl <;> simp [look_cons]
      · have : A = [] := List.eq_nil_of_length_eq_zero (by omega)
        subst this
        refine kJ_intro V ⟨.refl _, sV⟩ (Wk.keep ?_)
        intro p hp
        simp only [List.mem_cons, List.not_mem_nil, or_false] at hp
        rcases hp with rfl | rfl | rfl | rfl | rfl | rfl | rfl | rfl <;> simp [look_cons]
    rintro Z1 ⟨p1, s1⟩
    have lZ : Z1.length = A.length + V.length := by rw [p1.length_eq, List.length_append]
    have fin : ∀ Z2 : List Int, Z2.Perm (U ++ Bk) → Srt d Z2 → K (.tup []) (Hp (X ++ (Z1 ++ (Z2 ++ Y)))) := fun Z2 p2 s2 => by
      obtain ⟨s3, p3⟩ := srt_cross sL sR c1 c2 p1 p2 s1 s2
      have := hk (Z1 ++ Z2) (by simpa only [List.append_assoc] using p3) s3
      simpa only [List.append_assoc] using this
    simp only [not_true_eq_false, not_false_eq_true, decide_true, decide_false, Bool.not_true, Bool.not_false, false_implies, true_implies, and_true, true_and, Bool.false_eq_true, Bool.true_eq_false, implies_true, Bool.not_not, Classical.not_not, go_sem, Int.reduceToNat, List.take_nil, Nat.zero_mul, Nat.reduceEqDiff, Nat.reduceAdd, Nat.reduceLT, Nat.reduceLeDiff, Nat.reduceMul, ↓reduceIte, reduceCtorEq]
    refine ⟨fun q1 => ⟨fun q2 => ?_, fun q2 => ?_⟩, fun q1 => ?_⟩
    · have := ih (X := X ++ Z1) (L := U) (R := Bk) (Y := Y) (a := mid) (m := m + V.length) (b := b) (by omega) (by simp only [List.length_append]; omega) (by simp only [List.length_append]; omega) (by simp only [List.length_append]; omega) (by omega) (by omega) (by simp only [List.length_append]; omega) (fun x hx => rL x (List.mem_append_right _ hx)) (fun x hx => rR x (List.mem_append_right _ hx)) sepUB sU sB (K := fun v σ => v = .tup [] ∧ ∃ Z2 : List Int, Z2.Perm (U ++ Bk) ∧ Srt d Z2 ∧ σ = Hp (X ++ (Z1 ++ (Z2 ++ Y)))) (fun Z2 p2 s2 => ⟨rfl, Z2, p2, s2, by simp only [List.append_assoc]⟩)
      simp only [List.append_assoc] at this
      refine this.mono ?_
      rintro _ _ _ ⟨rfl, Z2, p2, s2, rfl⟩
      simp only [not_true_eq_false, not_false_eq_true, decide_true, decide_false, Bool.not_true, Bool.not_false, false_implies, true_implies, and_true, true_and, Bool.false_eq_true, Bool.true_eq_false, implies_true, Bool.not_not, Classical.not_not, go_sem, Int.reduceToNat, List.take_nil, Nat.zero_mul, Nat.reduceEqDiff, Nat.reduceAdd, Nat.reduceLT, Nat.reduceLeDiff, Nat.reduceMul, ↓reduceIte, reduceCtorEq]
      exact Fin.plain (fin Z2 p2 s2)
    · have : Bk = [] := List.eq_nil_of_length_eq_zero (by omega)
      subst this
      have := fin U (by rw [List.append_nil]) sU
      exact Fin.plain (by simpa using this)
    · have : U = [] := List.eq_nil_of_length_eq_zero (by omega)
      subst this
      exact Fin.plain (by simpa using fin Bk (.refl _) sB)
end
end Go.Proofs.Ytmphblbpofnpaaa
