import Derived.Test.YtmphblbpofnpaaaS72
namespace Go.Proofs.Ytmphblbpofnpaaa
open Go.Abs Go.Ds
set_option linter.unusedSimpArgs false
set_option linter.unusedVariables false
set_option maxRecDepth 20000
set_option maxHeartbeats 4000000
section
variable {Hp : List Int → List AB} {n r g : Nat} {cb : List (Nat × Nat)} {cf : Int → Int → Int} {d : Int → Int} {B : Int}
theorem insSort_ (hE : SortE Hp n r g cb cf d B) {c len : Nat} (hl : len ≤ 1000000) {X S Y : List Int} {a b : Nat} (ha : a = X.length) (hb : b = X.length + S.length) (hlen : len = X.length + S.length + Y.length) (rS : ∀ x ∈ S, 0 ≤ x ∧ x < B) (hS : Asc S) {K : AV → List AB → Prop}
    (hk : ∀ Z : List Int, Z.Perm S → Srt d Z → K (.tup []) (Hp (X ++ (Z ++ Y)))) :
    CallWp Try.prog n_slices_insertionSortCmpFunc_int [.sl n 0 len c, .i .i64 a, .i .i64 b, .fn g [] cb] (Hp (X ++ (S ++ Y))) K := by
  refine call_slices_insertionSortCmpFunc_int (by simp) ?_
  simp only [c_slices_insertionSortCmpFunc_int, not_true_eq_false, not_false_eq_true, decide_true, decide_false, Bool.not_true, Bool.not_false, false_implies, true_implies, and_true, true_and, Bool.false_eq_true, Bool.true_eq_false, implies_true, Bool.not_not, Classical.not_not, go_sem, Int.reduceToNat, List.take_nil, Nat.zero_mul, Nat.reduceEqDiff, Nat.reduceAdd, Nat.reduceLT, Nat.reduceLeDiff, Nat.reduceMul, ↓reduceIte, reduceCtorEq]
  have z0 : X ++ (S ++ Y) = X ++ (S.take 1 ++ (S.drop 1 ++ Y)) := by rw [← List.append_assoc (S.take 1), List.take_append_drop]
  have s1 : Srt d (S.take 1) := by
    match S with
    | [] => exact List.Pairwise.nil
    | x :: S => exact List.pairwise_singleton _ _
  refine ⟨by omega, ?_⟩
  rw [z0]
  refine loop_intro (fun i : Nat × List Int => ⟨[(0, .sl n 0 len c), (1, .i .i64 a), (2, .i .i64 b), (3, .fn g [] cb), (8, .i .i64 (a + i.1 : Nat))], Hp (X ++ (i.2 ++ (S.drop i.1 ++ Y)))⟩)
    (fun i => 1 ≤ i.1 ∧ (i.1 = 1 ∨ i.1 ≤ S.length) ∧ i.2.Perm (S.take i.1) ∧ Srt d i.2) (fun i => S.length - i.1) (1, S.take 1) ⟨Nat.le_refl _, .inl rfl, .refl _, s1⟩ (Wk.keep (by
      intro p hp
      simp only [List.mem_cons, List.not_mem_nil, or_false] at hp
      rcases hp with rfl | rfl | rfl | rfl | rfl <;> simp [look_cons])) ?_
  rintro ⟨k, Z⟩ ⟨k1, k2, pZ, sZ⟩
  simp only at k1 k2 pZ sZ
  simp only [l1_slices_insertionSortCmpFunc_int, not_true_eq_false, not_false_eq_true, decide_true, decide_false, Bool.not_true, Bool.not_false, false_implies, true_implies, and_true, true_and, Bool.false_eq_true, Bool.true_eq_false, implies_true, Bool.not_not, Classical.not_not, go_sem, Int.reduceToNat, List.take_nil, Nat.zero_mul, Nat.reduceEqDiff, Nat.reduceAdd, Nat.reduceLT, Nat.reduceLeDiff, Nat.reduceMul, ↓reduceIte, reduceCtorEq]
  refine ⟨fun hlt => ?_, fun hge => ?_⟩
  · have hkS : k < S.length := by omega
    have lZ : Z.length = k := by rw [pZ.length_eq, List.length_take]; omega
    have hz : X ++ (Z ++ (S.drop k ++ Y)) = mvR X Z (S.drop (k + 1) ++ Y) S[k] Z.length := by
      rw [drop_cons hkS]; simp only [mvR, List.take_length, List.drop_length, List.nil_append, List.cons_append]
    have rE := rS _ (List.getElem_mem hkS)
    have rZ : ∀ x ∈ Z, (0 ≤ x ∧ x < B) ∧ x < S[k] := fun x hx => by
      have hx2 := pZ.mem_iff.1 hx
      refine ⟨rS x (List.mem_of_mem_take hx2), ?_⟩
      obtain ⟨q, hq, rfl⟩ := List.getElem_of_mem hx2
      rw [List.length_take] at hq
      rw [List.getElem_take]
      exact List.pairwise_iff_getElem.1 hS q k (by omega) hkS (by omega)
    generalize hY : S.drop (k + 1) ++ Y = Y1 at hz
    have hlY : X.length + k + Y1.length + 1 = len := by rw [← hY, List.length_append, List.length_drop]; omega
    rw [hz]
    refine loop_intro (fun t : Nat => ⟨[(0, .sl n 0 len c), (1, .i .i64 a), (2, .i .i64 b), (3, .fn g [] cb), (8, .i .i64 (a + k : Nat)), (9, .i .i64 (a + t : Nat))], Hp (mvR X Z Y1 S[k] t)⟩)
      (fun t => t ≤ Z.length ∧ (t = Z.length ∨ ∃ q : t < Z.length, ltK d S[k] Z[t])) (fun t => t) Z.length ⟨Nat.le_refl _, .inl rfl⟩ (Wk.keep (by
        intro p hp
        simp only [List.mem_cons, List.not_mem_nil, or_false] at hp
        rcases hp with rfl | rfl | rfl | rfl | rfl | rfl <;> simp [look_cons, lZ])) ?_
    rintro t ⟨t1, t2⟩
    have hout : (t = 0 ∨ ∃ q : t - 1 < Z.length, ltK d Z[t - 1] S[k]) → (Z.take t ++ S[k] :: Z.drop t).Perm (S.take (k + 1)) ∧ Srt d (Z.take t ++ S[k] :: Z.drop t) ∧ mvR X Z Y1 S[k] t = X ++ ((Z.take t ++ S[k] :: Z.drop t) ++ (S.drop (k + 1) ++ Y)) := fun h => by
      refine ⟨?_, srt_ins sZ (srt_low sZ t1 h) (srt_high sZ t2), ?_⟩
      · rw [take_snoc hkS]
        exact (perm_ins Z S[k] t).trans ((List.Perm.cons _ pZ).trans (List.perm_append_comm (l₁ := [S[k]]) (l₂ := S.take k)))
      · rw [hY]; unfold mvR; simp only [List.append_assoc, List.cons_append]
    simp only [l0_slices_insertionSortCmpFunc_int, not_true_eq_false, not_false_eq_true, decide_true, decide_false, Bool.not_true, Bool.not_false, false_implies, true_implies, and_true, true_and, Bool.false_eq_true, Bool.true_eq_false, implies_true, Bool.not_not, Classical.not_not, go_sem, Int.reduceToNat, List.take_nil, Nat.zero_mul, Nat.reduceEqDiff, Nat.reduceAdd, Nat.reduceLT, Nat.reduceLeDiff, Nat.reduceMul, ↓reduceIte, reduceCtorEq]
    refine ⟨fun hj => ?_, fun hj => ?_⟩
    · obtain ⟨u, rfl⟩ : ∃ u, t = u + 1 := ⟨t - 1, by omega⟩
      have huZ : u < Z.length := by omega
      have e1 := mvR_x' (X := X) (Y := Y1) (x := S[k]) (R := Z) (t := u + 1) (by omega)
      have e2 := mvR_l (X := X) (Y := Y1) (x := S[k]) (R := Z) (t := u) (by omega)
      have e3 := mvR_pred (X := X) (Y := Y1) (x := S[k]) (R := Z) (t := u) (by omega)
      have hl1 := mvR_len X Z Y1 S[k] (u + 1)
      have i1 : (a + (u + 1) : Nat) = X.length + (u + 1) := by omega
      have i2 : (((X.length + (u + 1) : Nat) : Int) - 1).toNat = X.length + u := by omega
      have g1 : X.length + (u + 1) < (mvR X Z Y1 S[k] (u + 1)).length := by omega
      have g2 : ∀ v, X.length + u < ((mvR X Z Y1 S[k] (u + 1)).set (X.length + (u + 1)) v).length := fun v => by rw [List.length_set]; omega
      obtain ⟨rZu, ltu⟩ := rZ _ (List.getElem_mem huZ)
      have hc := hE.lt _ _ rE rZu
      simp only [i1, i2, hE.at_, rdI' e1, rdI' e2, lenI, hl1, not_true_eq_false, not_false_eq_true, decide_true, decide_false, Bool.not_true, Bool.not_false, false_implies, true_implies, and_true, true_and, Bool.false_eq_true, Bool.true_eq_false, implies_true, Bool.not_not, Classical.not_not, go_sem, Int.reduceToNat, List.take_nil, Nat.zero_mul, Nat.reduceEqDiff, Nat.reduceAdd, Nat.reduceLT, Nat.reduceLeDiff, Nat.reduceMul, ↓reduceIte, reduceCtorEq]
      refine ⟨by omega, by omega, by omega, by omega, by omega, onCall.by (hE.cmp _ _ _ rE rZu) ?_⟩
      simp only [i2, hE.at_, hE.set_, rdI' e1, rdI' e2, splI g1, splI (g2 _), e3, lenI, List.length_set, hl1, not_true_eq_false, not_false_eq_true, decide_true, decide_false, Bool.not_true, Bool.not_false, false_implies, true_implies, and_true, true_and, Bool.false_eq_true, Bool.true_eq_false, implies_true, Bool.not_not, Classical.not_not, go_sem, Int.reduceToNat, List.take_nil, Nat.zero_mul, Nat.reduceEqDiff, Nat.reduceAdd, Nat.reduceLT, Nat.reduceLeDiff, Nat.reduceMul, ↓reduceIte, reduceCtorEq]
      refine ⟨fun hcl => ?_, fun hcl => ?_⟩
      · repeat' first
          | omega
          | (refine ⟨u, ⟨⟨by omega, .inr ⟨huZ, .inl (hc.1 hcl)⟩⟩, by omega⟩, Wk.keep ?_⟩
             intro p hp
             simp only [List.mem_cons, List.not_mem_nil, or_false] at hp
             rcases hp with rfl | rfl | rfl | rfl | rfl | rfl <;> simp [look_cons] <;> omega)
          | refine ⟨?_, ?_⟩
          | intro _
      · have q1 : ¬ d S[k] < d Z[u] := fun h => hcl (hc.2 h)
        obtain ⟨h1, h2, h3⟩ := hout (.inr ⟨by omega, by simp only [Nat.add_sub_cancel]; unfold ltK; omega⟩)
        refine ⟨by omega, (k + 1, Z.take (u + 1) ++ S[k] :: Z.drop (u + 1)), ⟨⟨by simp only; omega, .inr (by simp only; omega), h1, h2⟩, by simp only; omega⟩, ?_⟩
        rw [h3]
        refine Wk.keep ?_
        intro p hp
        simp only [List.mem_cons, List.not_mem_nil, or_false] at hp
        rcases hp with rfl | rfl | rfl | rfl | rfl <;> simp [look_cons] <;> omega
    · obtain ⟨h1, h2, h3⟩ := hout (.inl (by omega))
      refine ⟨by omega, (k + 1, Z.take t ++ S[k] :: Z.drop t), ⟨⟨by simp only; omega, .inr (by simp only; omega), h1, h2⟩, by simp only; omega⟩, ?_⟩
      rw [h3]
      refine Wk.keep ?_
      intro p hp
      simp only [List.mem_cons, List.not_mem_nil, or_false] at hp
      rcases hp with rfl | rfl | rfl | rfl | rfl <;> simp [look_cons] <;> omega
  · have e1 : S.take k = S := List.take_of_length_le (by omega)
    have e2 : S.drop k = [] := List.drop_of_length_le (by omega)
    rw [e1] at pZ
    rw [e2]
    exact Fin.plain (hk Z pZ sZ)
def StR (d : Int → Int) (W Z : List Int) : Prop := Z.Perm W ∧ Srt d Z
theorem asc_sep {W : List Int} (hW : Asc W) (i : Nat) : Sep (W.take i) (W.drop i) := by
  have : Asc (W.take i ++ W.drop i) := by rw [List.take_append_drop]; exact hW
  exact fun x hx y hy => (List.pairwise_append.1 this).2.2 x hx y hy
theorem asc_take {W : List Int} (hW : Asc W) (i : Nat) : Asc (W.take i) := List.Pairwise.sublist (List.take_sublist ..) hW
theorem asc_drop {W : List Int} (hW : Asc W) (i : Nat) : Asc (W.drop i) := List.Pairwise.sublist (List.drop_sublist ..) hW
end
end Go.Proofs.Ytmphblbpofnpaaa
