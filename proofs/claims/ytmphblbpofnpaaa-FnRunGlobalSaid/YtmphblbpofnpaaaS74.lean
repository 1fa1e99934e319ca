import Derived.Test.YtmphblbpofnpaaaS73
namespace Go.Proofs.Ytmphblbpofnpaaa
open Go.Abs Go.Ds
set_option linter.unusedSimpArgs false
set_option linter.unusedVariables false
set_option maxRecDepth 20000
set_option maxHeartbeats 4000000
section
variable {Hp : List Int → List AB} {n r g : Nat} {cb : List (Nat × Nat)} {cf : Int → Int → Int} {d : Int → Int} {B : Int}
theorem StR.len {W Z : List Int} (h : StR d W Z) : Z.length = W.length := h.1.length_eq
theorem StR.nil {Z : List Int} (h : StR d [] Z) : Z = [] := List.perm_nil.1 h.1
theorem StR.sep {W W' Z Z' : List Int} (h : StR d W Z) (h' : StR d W' Z') (hs : Sep W W') : Sep Z Z' := fun x hx y hy => hs x (h.1.mem_iff.1 hx) y (h'.1.mem_iff.1 hy)
theorem StR.rng {W Z : List Int} (h : StR d W Z) (hW : ∀ x ∈ W, 0 ≤ x ∧ x < B) : ∀ x ∈ Z, 0 ≤ x ∧ x < B := fun x hx => hW x (h.1.mem_iff.1 hx)
theorem rng_take {W : List Int} (hW : ∀ x ∈ W, 0 ≤ x ∧ x < B) (i : Nat) : ∀ x ∈ W.take i, 0 ≤ x ∧ x < B := fun x hx => hW x (List.mem_of_mem_take hx)
theorem rng_drop {W : List Int} (hW : ∀ x ∈ W, 0 ≤ x ∧ x < B) (i : Nat) : ∀ x ∈ W.drop i, 0 ≤ x ∧ x < B := fun x hx => hW x (List.mem_of_mem_drop hx)
theorem take_add (W : List Int) (i j : Nat) : W.take (i + j) = W.take i ++ (W.drop i).take j := by
  rw [List.take_add]
def StM (d : Int → Int) (W : List Int) (i : Nat × List Int × List Int × List Int) : Prop :=
  (i.1 = 20 ∧ StR d (W.take 20) i.2.1 ∧ StR d ((W.drop 20).take 20) i.2.2.1 ∧ StR d (W.drop 40) i.2.2.2) ∨ (i.1 = 40 ∧ StR d (W.take 40) i.2.1 ∧ i.2.2.1 = [] ∧ StR d (W.drop 40) i.2.2.2) ∨ (i.1 = 80 ∧ StR d W i.2.1 ∧ i.2.2.1 = [] ∧ i.2.2.2 = [])
theorem StM.len {W : List Int} {i : Nat × List Int × List Int × List Int} (h : StM d W i) : i.2.1.length + i.2.2.1.length + i.2.2.2.length = W.length := by
  rcases h with ⟨_, h1, h2, h3⟩ | ⟨_, h1, h2, h3⟩ | ⟨_, h1, h2, h3⟩
  · rw [h1.len, h2.len, h3.len, List.length_take, List.length_take, List.length_drop, List.length_drop]; omega
  · rw [h1.len, h2, h3.len, List.length_take, List.length_drop, List.length_nil]; omega
  · rw [h1.len, h2, h3, List.length_nil]; omega
theorem flat_len (Zs : List (List Int)) (h : ∀ Z ∈ Zs, Z.length = 20) : Zs.flatten.length = 20 * Zs.length := by
  induction Zs with
  | nil => rfl
  | cons Z Zs ih =>
    rw [List.flatten_cons, List.length_append, h Z (by simp), ih fun Y hY => h Y (by simp [hY]), List.length_cons]; omega
def Blks (d : Int → Int) (W : List Int) (Zs : List (List Int)) : Prop := ∀ q (h : q < Zs.length), StR d ((W.drop (20 * q)).take 20) Zs[q]
theorem Blks.len {W : List Int} {Zs : List (List Int)} (h : Blks d W Zs) (hl : 20 * Zs.length ≤ W.length) : Zs.flatten.length = 20 * Zs.length := by
  refine flat_len Zs fun Z hZ => ?_
  obtain ⟨q, hq, rfl⟩ := List.getElem_of_mem hZ
  rw [(h q hq).len, List.length_take, List.length_drop]; omega
theorem Blks.snoc {W : List Int} {Zs : List (List Int)} {Z : List Int} (h : Blks d W Zs) (hZ : StR d ((W.drop (20 * Zs.length)).take 20) Z) : Blks d W (Zs ++ [Z]) := by
  intro q hq
  rw [List.length_append, List.length_cons, List.length_nil] at hq
  rcases Nat.lt_or_ge q Zs.length with h1 | h1
  · rw [List.getElem_append_left h1]; exact h q h1
  · have e : q = Zs.length := by omega
    subst e
    rw [List.getElem_append_right (Nat.le_refl _)]
    simpa using hZ
theorem blks_all {W : List Int} {Zs : List (List Int)} {Z : List Int} (hW : W.length ≤ 60) (h : Blks d W Zs) (hl : 20 * Zs.length ≤ W.length) (hl2 : W.length < 20 * Zs.length + 20) (hZ : StR d (W.drop (20 * Zs.length)) Z) :
    ∃ A B' C, Zs.flatten ++ Z = A ++ (B' ++ C) ∧ StM d W (20, A, B', C) := by
  have nilS : ∀ {k : Nat}, W.length ≤ k → StR d (W.drop k) [] := fun {k} hk => by
    rw [List.drop_of_length_le hk]; exact ⟨.refl _, List.Pairwise.nil⟩
  have nilT : ∀ {k : Nat}, W.length ≤ k → StR d ((W.drop k).take 20) [] := fun {k} hk => by
    rw [List.drop_of_length_le hk, List.take_nil]; exact ⟨.refl _, List.Pairwise.nil⟩
  match Zs, h, hl, hl2, hZ with
  | [], h, hl, hl2, hZ =>
    simp only [List.length_nil, Nat.mul_zero, List.drop_zero, Nat.zero_add] at hl2 hZ
    exact ⟨Z, [], [], by simp, .inl ⟨rfl, by rw [List.take_of_length_le (by omega)]; exact hZ, nilT (by omega), nilS (by omega)⟩⟩
  | [Z0], h, hl, hl2, hZ =>
    simp only [List.length_cons, List.length_nil, Nat.mul_one, Nat.zero_add] at hl hl2 hZ
    refine ⟨Z0, Z, [], by simp, .inl ⟨rfl, h 0 (by simp), ?_, nilS (by omega)⟩⟩
    rw [List.take_of_length_le (by rw [List.length_drop]; omega)]; exact hZ
  | [Z0, Z1], h, hl, hl2, hZ =>
    simp only [List.length_cons, List.length_nil, Nat.zero_add, Nat.reduceAdd, Nat.reduceMul] at hl hl2 hZ
    exact ⟨Z0, Z1, Z, by simp, .inl ⟨rfl, h 0 (by simp), h 1 (by simp), hZ⟩⟩
  | [Z0, Z1, Z2], h, hl, hl2, hZ =>
    simp only [List.length_cons, List.length_nil, Nat.zero_add, Nat.reduceAdd, Nat.reduceMul] at hl hl2 hZ
    have e0 : Z = [] := by
      rw [List.drop_of_length_le (by omega)] at hZ; exact hZ.nil
    subst e0
    have h2 : StR d ((W.drop 40).take 20) Z2 := h 2 (by simp)
    rw [List.take_of_length_le (by rw [List.length_drop]; omega)] at h2
    exact ⟨Z0, Z1, Z2, by simp, .inl ⟨rfl, h 0 (by simp), h 1 (by simp), h2⟩⟩
  | _ :: _ :: _ :: _ :: Zs, h, hl, hl2, hZ =>
    simp only [List.length_cons] at hl; omega
theorem stable_ (hE : SortE Hp n r g cb cf d B) {c : Nat} {W : List Int} (hl : W.length ≤ 60) (rW : ∀ x ∈ W, 0 ≤ x ∧ x < B) (hW : Asc W) {K : AV → List AB → Prop}
    (hk : ∀ Z : List Int, Z.Perm W → Srt d Z → K (.tup []) (Hp Z)) :
    CallWp Try.prog n_slices_stableCmpFunc_int [.sl n 0 W.length c, .i .i64 W.length, .fn g [] cb] (Hp W) K := by
  refine call_slices_stableCmpFunc_int (by simp) ?_
  simp only [c_slices_stableCmpFunc_int, not_true_eq_false, not_false_eq_true, decide_true, decide_false, Bool.not_true, Bool.not_false, false_implies, true_implies, and_true, true_and, Bool.false_eq_true, Bool.true_eq_false, implies_true, Bool.not_not, Classical.not_not, go_sem, Int.reduceToNat, List.take_nil, Nat.zero_mul, Nat.reduceEqDiff, Nat.reduceAdd, Nat.reduceLT, Nat.reduceLeDiff, Nat.reduceMul, ↓reduceIte, reduceCtorEq]
  refine loop_intro (fun Zs : List (List Int) => ⟨[(0, .sl n 0 W.length c), (1, .i .i64 W.length), (2, .fn g [] cb), (6, .i .i64 20), (7, .i .i64 (20 * Zs.length : Nat)), (8, .i .i64 (20 * Zs.length + 20 : Nat))], Hp (Zs.flatten ++ W.drop (20 * Zs.length))⟩)
    (fun Zs => 20 * Zs.length ≤ W.length ∧ Blks d W Zs) (fun Zs => W.length - 20 * Zs.length) [] ⟨by simp, fun q h => absurd h (by simp)⟩ (Wk.keep (by
      intro p hp
      simp only [List.mem_cons, List.not_mem_nil, or_false] at hp
      rcases hp with rfl | rfl | rfl | rfl | rfl | rfl <;> simp [look_cons])) ?_
  rintro Zs ⟨hz1, hz2⟩
  have hfl := hz2.len hz1
  simp only [l2_slices_stableCmpFunc_int, not_true_eq_false, not_false_eq_true, decide_true, decide_false, Bool.not_true, Bool.not_false, false_implies, true_implies, and_true, true_and, Bool.false_eq_true, Bool.true_eq_false, implies_true, Bool.not_not, Classical.not_not, go_sem, Int.reduceToNat, List.take_nil, Nat.zero_mul, Nat.reduceEqDiff, Nat.reduceAdd, Nat.reduceLT, Nat.reduceLeDiff, Nat.reduceMul, ↓reduceIte, reduceCtorEq]
  refine ⟨fun hb => ?_, fun hb => ?_⟩
  · have e0 : W.drop (20 * Zs.length) = (W.drop (20 * Zs.length)).take 20 ++ W.drop (20 * Zs.length + 20) := by
      rw [← List.drop_drop, List.take_append_drop]
    have lS : ((W.drop (20 * Zs.length)).take 20).length = 20 := by rw [List.length_take, List.length_drop]; omega
    have lY : (W.drop (20 * Zs.length + 20)).length = W.length - (20 * Zs.length + 20) := List.length_drop ..
    rw [e0]
    refine insSort_ hE (by omega) (by omega) (by omega) (by omega) (rng_take (rng_drop rW _) _) (asc_take (asc_drop hW _) _) fun Z pZ sZ => ?_
    simp only [not_true_eq_false, not_false_eq_true, decide_true, decide_false, Bool.not_true, Bool.not_false, false_implies, true_implies, and_true, true_and, Bool.false_eq_true, Bool.true_eq_false, implies_true, Bool.not_not, Classical.not_not, go_sem, Int.reduceToNat, List.take_nil, Nat.zero_mul, Nat.reduceEqDiff, Nat.reduceAdd, Nat.reduceLT, Nat.reduceLeDiff, Nat.reduceMul, ↓reduceIte, reduceCtorEq]
    refine ⟨by omega, Zs ++ [Z], ⟨⟨by simp only [List.length_append, List.length_cons, List.length_nil]; omega, hz2.snoc ⟨pZ, sZ⟩⟩, by simp only [List.length_append, List.length_cons, List.length_nil]; omega⟩, ?_⟩
    have e2 : Zs.flatten ++ (Z ++ W.drop (20 * Zs.length + 20)) = (Zs ++ [Z]).flatten ++ W.drop (20 * (Zs ++ [Z]).length) := by
      rw [List.flatten_append, List.append_assoc, List.length_append]; simp [Nat.mul_add]
    rw [e2]
    refine Wk.keep ?_
    intro p hp
    simp only [List.mem_cons, List.not_mem_nil, or_false] at hp
    rcases hp with rfl | rfl | rfl | rfl | rfl | rfl <;> simp [look_cons] <;> omega
  · have hS := insSort_ hE (c := c) (len := W.length) (by omega) (X := Zs.flatten) (S := W.drop (20 * Zs.length)) (Y := []) (a := 20 * Zs.length) (b := W.length) (by omega) (by rw [List.length_drop]; omega) (by rw [List.length_drop, List.length_nil]; omega) (rng_drop rW _) (asc_drop hW _) (K := fun v σ => v = .tup [] ∧ ∃ Z : List Int, StR d (W.drop (20 * Zs.length)) Z ∧ σ = Hp (Zs.flatten ++ Z)) (fun Z pZ sZ => ⟨rfl, Z, ⟨pZ, sZ⟩, by rw [List.append_nil]⟩)
    rw [List.append_nil] at hS
    refine hS.mono ?_
    rintro _ _ _ ⟨rfl, Z, hZ, rfl⟩
    obtain ⟨A0, B0, C0, e1, hM0⟩ := blks_all hl hz2 hz1 (by omega) hZ
    rw [e1]
    simp only [not_true_eq_false, not_false_eq_true, decide_true, decide_false, Bool.not_true, Bool.not_false, false_implies, true_implies, and_true, true_and, Bool.false_eq_true, Bool.true_eq_false, implies_true, Bool.not_not, Classical.not_not, go_sem, Int.reduceToNat, List.take_nil, Nat.zero_mul, Nat.reduceEqDiff, Nat.reduceAdd, Nat.reduceLT, Nat.reduceLeDiff, Nat.reduceMul, ↓reduceIte, reduceCtorEq]
    refine loop_intro (fun i : Nat × List Int × List Int × List Int => ⟨[(0, .sl n 0 W.length c), (1, .i .i64 W.length), (2, .fn g [] cb), (6, .i .i64 i.1)], Hp (i.2.1 ++ (i.2.2.1 ++ i.2.2.2))⟩)
      (StM d W) (fun i => 80 - i.1) (20, A0, B0, C0) hM0 (Wk.keep (by
        intro p hp
        simp only [List.mem_cons, List.not_mem_nil, or_false] at hp
        rcases hp with rfl | rfl | rfl | rfl <;> simp [look_cons])) ?_
    rintro ⟨bs, A, B', C⟩ hM
    have hlen := hM.len
    simp only at hlen
    simp only [l1_slices_stableCmpFunc_int, not_true_eq_false, not_false_eq_true, decide_true, decide_false, Bool.not_true, Bool.not_false, false_implies, true_implies, and_true, true_and, Bool.false_eq_true, Bool.true_eq_false, implies_true, Bool.not_not, Classical.not_not, go_sem, Int.reduceToNat, List.take_nil, Nat.zero_mul, Nat.reduceEqDiff, Nat.reduceAdd, Nat.reduceLT, Nat.reduceLeDiff, Nat.reduceMul, ↓reduceIte, reduceCtorEq]
    refine ⟨fun hlt => ?_, fun hge => ?_⟩
    · rcases hM with ⟨rfl, h1, h2, h3⟩ | ⟨rfl, h1, rfl, h3⟩ | ⟨rfl, _⟩
      · simp only at h1 h2 h3
        have l1 := h1.len; have l2 := h2.len; have l3 := h3.len
        rw [List.length_take] at l1
        rw [List.length_take, List.length_drop] at l2
        rw [List.length_drop] at l3
        have sepAB : Sep A B' := h1.sep h2 fun x hx y hy => asc_sep hW 20 x hx y (List.mem_of_mem_take hy)
        have next : ∀ Z : List Int, Z.Perm (A ++ B') → Srt d Z → StM d W (40, Z, [], C) := fun Z pZ sZ => by
          refine .inr (.inl ⟨rfl, ⟨?_, sZ⟩, rfl, h3⟩)
          rw [show (40 : Nat) = 20 + 20 by rfl, take_add]
          exact pZ.trans (h1.1.append h2.1)
        refine ⟨by omega, ?_⟩
        refine loop_intro (fun i : Nat × List Int × List Int => ⟨[(0, .sl n 0 W.length c), (1, .i .i64 W.length), (2, .fn g [] cb), (6, .i .i64 20), (7, .i .i64 (40 * i.1 : Nat)), (8, .i .i64 (40 * i.1 + 40 : Nat))], Hp (i.2.1 ++ (i.2.2 ++ C))⟩)
          (fun i => (i.1 = 0 ∧ i.2.1 = A ∧ i.2.2 = B') ∨ (i.1 = 1 ∧ 40 ≤ W.length ∧ i.2.2 = [] ∧ StM d W (40, i.2.1, [], C))) (fun i => 1 - i.1) (0, A, B') (.inl ⟨rfl, rfl, rfl⟩) (Wk.keep (by
            intro p hp
            simp only [List.mem_cons, List.not_mem_nil, or_false] at hp
            rcases hp with rfl | rfl | rfl | rfl | rfl | rfl <;> simp [look_cons])) ?_
        rintro ⟨k, A1, B1⟩ hk1
        simp only at hk1
        rcases hk1 with ⟨rfl, rfl, rfl⟩ | ⟨rfl, hW4, rfl, hM1⟩
        · simp only [l0_slices_stableCmpFunc_int, Nat.mul_zero, Nat.zero_add, not_true_eq_false, not_false_eq_true, decide_true, decide_false, Bool.not_true, Bool.not_false, false_implies, true_implies, and_true, true_and, Bool.false_eq_true, Bool.true_eq_false, implies_true, Bool.not_not, Classical.not_not, go_sem, Int.reduceToNat, List.take_nil, Nat.zero_mul, Nat.reduceEqDiff, Nat.reduceAdd, Nat.reduceLT, Nat.reduceLeDiff, Nat.reduceMul, ↓reduceIte, reduceCtorEq]
          refine ⟨fun hb4 => ?_, fun hb4 => ?_⟩
          · refine ⟨by omega, ?_⟩
            have hm := symMerge_ hE (c := c) (len := W.length) (by omega) _ (X := []) (L := A1) (R := B1) (Y := C) (a := 0) (m := 20) (b := 40) (Nat.le_refl _) rfl (by simp only [List.length_nil]; omega) (by simp only [List.length_nil]; omega) (by omega) (by omega) (by simp only [List.length_nil]; omega) (h1.rng (rng_take rW _)) (h2.rng (rng_take (rng_drop rW _) _)) sepAB h1.2 h2.2 (K := fun v σ => v = .tup [] ∧ ∃ Z : List Int, Z.Perm (A1 ++ B1) ∧ Srt d Z ∧ σ = Hp (Z ++ C)) (fun Z p s => ⟨rfl, Z, p, s, rfl⟩)
            refine hm.mono ?_
            rintro _ _ _ ⟨rfl, Z, pZ, sZ, rfl⟩
            simp only [Int.reduceMul, not_true_eq_false, not_false_eq_true, decide_true, decide_false, Bool.not_true, Bool.not_false, false_implies, true_implies, and_true, true_and, Bool.false_eq_true, Bool.true_eq_false, implies_true, Bool.not_not, Classical.not_not, go_sem, Int.reduceToNat, List.take_nil, Nat.zero_mul, Nat.reduceEqDiff, Nat.reduceAdd, Nat.reduceLT, Nat.reduceLeDiff, Nat.reduceMul, ↓reduceIte, reduceCtorEq]
            refine ⟨by omega, by omega, (1, Z, []), ⟨.inr ⟨rfl, by omega, rfl, next Z pZ sZ⟩, by omega⟩, Wk.keep ?_⟩
            intro p hp
            simp only [List.mem_cons, List.not_mem_nil, or_false] at hp
            rcases hp with rfl | rfl | rfl | rfl | rfl | rfl <;> simp [look_cons]
          · have e3 : C = [] := List.eq_nil_of_length_eq_zero (by omega)
            subst e3
            refine ⟨by omega, fun hm2 => ?_, fun hm2 => absurd (by omega) hm2⟩
            have hm := symMerge_ hE (c := c) (len := W.length) (by omega) _ (X := []) (L := A1) (R := B1) (Y := []) (a := 0) (m := 20) (b := W.length) (Nat.le_refl _) rfl (by simp only [List.length_nil]; omega) (by simp only [List.length_nil]; omega) (by omega) (by omega) (by simp only [List.length_nil]; omega) (h1.rng (rng_take rW _)) (h2.rng (rng_take (rng_drop rW _) _)) sepAB h1.2 h2.2 (K := fun v σ => v = .tup [] ∧ ∃ Z : List Int, Z.Perm (A1 ++ B1) ∧ Srt d Z ∧ σ = Hp (Z ++ [])) (fun Z p s => ⟨rfl, Z, p, s, rfl⟩)
            refine hm.mono ?_
            rintro _ _ _ ⟨rfl, Z, pZ, sZ, rfl⟩
            simp only [Int.reduceMul, not_true_eq_false, not_false_eq_true, decide_true, decide_false, Bool.not_true, Bool.not_false, false_implies, true_implies, and_true, true_and, Bool.false_eq_true, Bool.true_eq_false, implies_true, Bool.not_not, Classical.not_not, go_sem, Int.reduceToNat, List.take_nil, Nat.zero_mul, Nat.reduceEqDiff, Nat.reduceAdd, Nat.reduceLT, Nat.reduceLeDiff, Nat.reduceMul, ↓reduceIte, reduceCtorEq]
            refine ⟨by omega, (40, Z, [], []), ⟨next Z pZ sZ, by simp only; omega⟩, ?_⟩
            simp only [List.append_nil]
            refine Wk.keep ?_
            intro p hp
            simp only [List.mem_cons, List.not_mem_nil, or_false] at hp
            rcases hp with rfl | rfl | rfl | rfl <;> simp [look_cons]
        · simp only [l0_slices_stableCmpFunc_int, Nat.mul_one, Nat.reduceAdd, not_true_eq_false, not_false_eq_true, decide_true, decide_false, Bool.not_true, Bool.not_false, false_implies, true_implies, and_true, true_and, Bool.false_eq_true, Bool.true_eq_false, implies_true, Bool.not_not, Classical.not_not, go_sem, Int.reduceToNat, List.take_nil, Nat.zero_mul, Nat.reduceEqDiff, Nat.reduceAdd, Nat.reduceLT, Nat.reduceLeDiff, Nat.reduceMul, ↓reduceIte, reduceCtorEq]
          refine ⟨fun hb4 => absurd hb4 (by omega), fun hb4 => ⟨by omega, fun hm2 => absurd hm2 (by omega), fun hm2 => ⟨by omega, (40, A1, [], C), ⟨hM1, by simp only; omega⟩, Wk.keep ?_⟩⟩⟩
          intro p hp
          simp only [List.mem_cons, List.not_mem_nil, or_false] at hp
          rcases hp with rfl | rfl | rfl | rfl <;> simp [look_cons]
      · simp only at h1 h3
        have l1 := h1.len; have l3 := h3.len
        rw [List.length_take] at l1
        rw [List.length_drop] at l3
        have sepAC : Sep A C := h1.sep h3 (asc_sep hW 40)
        simp only [List.nil_append, Int.reduceMul, not_true_eq_false, not_false_eq_true, decide_true, decide_false, Bool.not_true, Bool.not_false, false_implies, true_implies, and_true, true_and, Bool.false_eq_true, Bool.true_eq_false, implies_true, Bool.not_not, Classical.not_not, go_sem, Int.reduceToNat, List.take_nil, Nat.zero_mul, Nat.reduceEqDiff, Nat.reduceAdd, Nat.reduceLT, Nat.reduceLeDiff, Nat.reduceMul, ↓reduceIte, reduceCtorEq]
        refine ⟨by omega, ?_⟩
        refine loop_count 0 (fun i => ⟨[(0, .sl n 0 W.length c), (1, .i .i64 W.length), (2, .fn g [] cb), (6, .i .i64 40), (7, .i .i64 0), (8, .i .i64 80)], Hp (A ++ C)⟩) (fun _ => True) trivial (Wk.keep (by simp [look_cons])) fun i hi _ => ?_
        simp only [l0_slices_stableCmpFunc_int, not_true_eq_false, not_false_eq_true, decide_true, decide_false, Bool.not_true, Bool.not_false, false_implies, true_implies, and_true, true_and, Bool.false_eq_true, Bool.true_eq_false, implies_true, Bool.not_not, Classical.not_not, go_sem, Int.reduceToNat, List.take_nil, Nat.zero_mul, Nat.reduceEqDiff, Nat.reduceAdd, Nat.reduceLT, Nat.reduceLeDiff, Nat.reduceMul, ↓reduceIte, reduceCtorEq]
        refine ⟨fun h => absurd h (by omega), fun _ => ⟨by omega, fun hm2 => ?_, fun hm2 => absurd (by omega) hm2⟩⟩
        have hm := symMerge_ hE (c := c) (len := W.length) (by omega) _ (X := []) (L := A) (R := C) (Y := []) (a := 0) (m := 40) (b := W.length) (Nat.le_refl _) rfl (by simp only [List.length_nil]; omega) (by simp only [List.length_nil]; omega) (by omega) (by omega) (by simp only [List.length_nil]; omega) (h1.rng (rng_take rW _)) (h3.rng (rng_drop rW _)) sepAC h1.2 h3.2 (K := fun v σ => v = .tup [] ∧ ∃ Z : List Int, Z.Perm (A ++ C) ∧ Srt d Z ∧ σ = Hp Z) (fun Z p s => ⟨rfl, Z, p, s, by rw [List.append_nil]; rfl⟩)
        rw [List.append_nil] at hm
        refine hm.mono ?_
        rintro _ _ _ ⟨rfl, Z, pZ, sZ, rfl⟩
        simp only [Int.reduceMul, not_true_eq_false, not_false_eq_true, decide_true, decide_false, Bool.not_true, Bool.not_false, false_implies, true_implies, and_true, true_and, Bool.false_eq_true, Bool.true_eq_false, implies_true, Bool.not_not, Classical.not_not, go_sem, Int.reduceToNat, List.take_nil, Nat.zero_mul, Nat.reduceEqDiff, Nat.reduceAdd, Nat.reduceLT, Nat.reduceLeDiff, Nat.reduceMul, ↓reduceIte, reduceCtorEq]
        refine ⟨by omega, (80, Z, [], []), ⟨.inr (.inr ⟨rfl, ⟨?_, sZ⟩, rfl, rfl⟩), by simp only; omega⟩, ?_⟩
        · have := pZ.trans (h1.1.append h3.1)
          rwa [List.take_append_drop] at this
        · simp only [List.append_nil]
          refine Wk.keep ?_
          intro p hp
          simp only [List.mem_cons, List.not_mem_nil, or_false] at hp
          rcases hp with rfl | rfl | rfl | rfl <;> simp [look_cons]
      · omega
    · have fin : ∃ Z : List Int, StR d W Z ∧ A ++ (B' ++ C) = Z := by
        rcases hM with ⟨rfl, h1, h2, h3⟩ | ⟨rfl, h1, rfl, h3⟩ | ⟨rfl, h1, rfl, rfl⟩
        · simp only at h1 h2 h3
          have l2 := h2.len; have l3 := h3.len
          rw [List.length_take, List.length_drop] at l2
          rw [List.length_drop] at l3
          have e2 : B' = [] := List.eq_nil_of_length_eq_zero (by omega)
          have e3 : C = [] := List.eq_nil_of_length_eq_zero (by omega)
          subst e2 e3
          rw [List.take_of_length_le (by omega)] at h1
          exact ⟨A, h1, by simp⟩
        · simp only at h1 h3
          have l3 := h3.len
          rw [List.length_drop] at l3
          have e3 : C = [] := List.eq_nil_of_length_eq_zero (by omega)
          subst e3
          rw [List.take_of_length_le (by omega)] at h1
          exact ⟨A, h1, by simp⟩
        · exact ⟨A, h1, by simp⟩
      obtain ⟨Z, hZ, e⟩ := fin
      rw [e]
      exact Fin.plain (hk Z hZ.1 hZ.2)
theorem sortStable_ (hE : SortE Hp n r g cb cf d B) {c : Nat} {W : List Int} (hl : W.length ≤ 60) (rW : ∀ x ∈ W, 0 ≤ x ∧ x < B) (hW : Asc W) {K : AV → List AB → Prop}
    (hk : ∀ Z : List Int, Z.Perm W → Srt d Z → K (.tup []) (Hp Z)) :
    CallWp Try.prog n_slices_SortStableFunc_int [.sl n 0 W.length c, .fn g [] cb] (Hp W) K := by
  refine call_slices_SortStableFunc_int (by simp) ?_
  simp only [c_slices_SortStableFunc_int, not_true_eq_false, not_false_eq_true, decide_true, decide_false, Bool.not_true, Bool.not_false, false_implies, true_implies, and_true, true_and, Bool.false_eq_true, Bool.true_eq_false, implies_true, Bool.not_not, Classical.not_not, go_sem, Int.reduceToNat, List.take_nil, Nat.zero_mul, Nat.reduceEqDiff, Nat.reduceAdd, Nat.reduceLT, Nat.reduceLeDiff, Nat.reduceMul, ↓reduceIte, reduceCtorEq]
  refine stable_ hE hl rW hW fun Z p s => ?_
  simp only [not_true_eq_false, not_false_eq_true, decide_true, decide_false, Bool.not_true, Bool.not_false, false_implies, true_implies, and_true, true_and, Bool.false_eq_true, Bool.true_eq_false, implies_true, Bool.not_not, Classical.not_not, go_sem, Int.reduceToNat, List.take_nil, Nat.zero_mul, Nat.reduceEqDiff, Nat.reduceAdd, Nat.reduceLT, Nat.reduceLeDiff, Nat.reduceMul, ↓reduceIte, reduceCtorEq]
  exact Fin.plain (hk Z p s)
end
end Go.Proofs.Ytmphblbpofnpaaa
