/- The law FnPartition answers true: over the abstract heap. -/
import Derived.Test.YtfngcejaphhmmaaS29
import Derived.Test.YtfngcejaphhmmaaS31
namespace Go.Proofs.Ytfngcejaphhmmaa
open Go.Abs Go.Ds
set_option linter.unusedSimpArgs false
set_option linter.unusedVariables false
set_option maxRecDepth 20000
set_option maxHeartbeats 2000000

theorem lx_at {A F : List Int} (h : Lx A F) {i : Nat} (hi : i < F.length) (he : ∀ j : Nat, j < i → gI A j = gI F j) (hne : gI A i ≠ gI F i) : gI A i < gI F i := by
  rcases h with rfl | ⟨k, h1, h2, h3⟩
  · exact absurd rfl hne
  · rcases Nat.lt_trichotomy i k with h | h | h
    · exact absurd (h2 i h) hne
    · rw [h]; exact h3
    · have := he k h; omega

theorem laws_FnPartition0 (C D : List Nat) (hC : ∀ x ∈ C, x < 256) (hD : ∀ x ∈ D, x < 256) (c d : Nat) : CallWp Try.prog n_laws_FnPartition [.sl 0 0 C.length c, .sl 1 0 D.length d] [.ro (encByte.row C), .ro (encByte.row D)] (fun x _ => x = .b true) := by
  refine call_laws_FnPartition (by simp) ?_
  simp only [c_laws_FnPartition, not_true_eq_false, not_false_eq_true, decide_true, decide_false, Bool.not_true, Bool.not_false, false_implies, true_implies, and_true, true_and, Bool.false_eq_true, Bool.true_eq_false, implies_true, Bool.not_not, Classical.not_not, go_sem, Int.reduceToNat, List.take_nil, Nat.zero_mul, Nat.reduceEqDiff, Nat.reduceAdd, Nat.reduceLT, Nat.reduceLeDiff, Nat.reduceMul, ↓reduceIte, reduceCtorEq]
  refine ⟨fun h => ⟨fun h' => Fin.plain rfl, fun h' => ?_⟩, fun h => Fin.plain rfl⟩
  refine spec_DrawPartition_ (C := C) hC (Rd.own rfl) fun S cap m hS8 hm => ?_
  simp only [not_true_eq_false, not_false_eq_true, decide_true, decide_false, Bool.not_true, Bool.not_false, false_implies, true_implies, and_true, true_and, Bool.false_eq_true, Bool.true_eq_false, implies_true, Bool.not_not, Classical.not_not, go_sem, Int.reduceToNat, List.take_nil, Nat.zero_mul, Nat.reduceEqDiff, Nat.reduceAdd, Nat.reduceLT, Nat.reduceLeDiff, Nat.reduceMul, ↓reduceIte, reduceCtorEq]
  refine impl_Partition_ (S := S) (by omega) (Rd.own rfl) fun x τ hx => ?_
  rcases hx with ⟨A, c1, r1, rfl, rfl, hok, hA⟩ | ⟨rfl, rfl, hno⟩
  · simp only [go_sem, Int.reduceToNat, List.take_nil, Nat.zero_mul, Nat.reduceEqDiff, Nat.reduceAdd, Nat.reduceLT, Nat.reduceLeDiff, Nat.reduceMul, ↓reduceIte, reduceCtorEq]
    refine spec_Partition_ (S := S) (by omega) (Rd.own rfl) fun x τ hx => ?_
    rcases hx with ⟨A', c2, r2, rfl, rfl, _, hA'⟩ | ⟨rfl, rfl, hno⟩
    rotate_left
    · rw [hno hok] at hA; cases hA
    rw [hA] at hA'
    obtain rfl := Option.some.inj hA'
    have hS := hok.1
    have hm1 := hok.2
    have hf := dfs_feas hA
    have hAl := hf.1
    simp only [not_true_eq_false, not_false_eq_true, decide_true, decide_false, Bool.not_true, Bool.not_false, false_implies, true_implies, and_true, true_and, Bool.false_eq_true, Bool.true_eq_false, implies_true, Bool.not_not, Classical.not_not, go_sem, Int.reduceToNat, List.take_nil, Nat.zero_mul, Nat.reduceEqDiff, Nat.reduceAdd, Nat.reduceLT, Nat.reduceLeDiff, Nat.reduceMul, ↓reduceIte, reduceCtorEq]
    refine laws_sameInts_ (L := A) (M := A) (by omega) (Rd.own rfl) (Rd.own rfl) ?_
    simp only [not_true_eq_false, not_false_eq_true, decide_true, decide_false, Bool.not_true, Bool.not_false, false_implies, true_implies, and_true, true_and, Bool.false_eq_true, Bool.true_eq_false, implies_true, Bool.not_not, Classical.not_not, go_sem, Int.reduceToNat, List.take_nil, Nat.zero_mul, Nat.reduceEqDiff, Nat.reduceAdd, Nat.reduceLT, Nat.reduceLeDiff, Nat.reduceMul, ↓reduceIte, reduceCtorEq]
    refine impl_FirstFit_ (S := S) (by omega) (Rd.own rfl) fun x τ hx => ?_
    rcases hx with ⟨F, c3, r3, rfl, rfl, _, hF⟩ | ⟨rfl, rfl, hnF⟩
    · simp only [not_true_eq_false, not_false_eq_true, decide_true, decide_false, Bool.not_true, Bool.not_false, false_implies, true_implies, and_true, true_and, Bool.false_eq_true, Bool.true_eq_false, implies_true, Bool.not_not, Classical.not_not, go_sem, Int.reduceToNat, List.take_nil, Nat.zero_mul, Nat.reduceEqDiff, Nat.reduceAdd, Nat.reduceLT, Nat.reduceLeDiff, Nat.reduceMul, ↓reduceIte, reduceCtorEq]
      refine spec_SetValid_ (L := S) (by omega) (Rd.own rfl) ?_
      simp only [hS, not_true_eq_false, not_false_eq_true, decide_true, decide_false, Bool.not_true, Bool.not_false, false_implies, true_implies, and_true, true_and, Bool.false_eq_true, Bool.true_eq_false, implies_true, Bool.not_not, Classical.not_not, go_sem, Int.reduceToNat, List.take_nil, Nat.zero_mul, Nat.reduceEqDiff, Nat.reduceAdd, Nat.reduceLT, Nat.reduceLeDiff, Nat.reduceMul, ↓reduceIte, reduceCtorEq]
      refine ⟨fun h1 => ⟨fun h5 => absurd h5 (by omega), fun h5 => ?_⟩, fun h1 => absurd h1 (by omega)⟩
      refine loop_intro (fun i : List Int × Nat => ⟨[(1, .sl 1 0 D.length d), (5, .sl 2 0 S.length cap), (6, .i .i64 m), (7, .sl 3 0 A.length c1), (8, .b true), (11, .sl 4 0 F.length c3), (12, .b true), (13, .sl 5 0 i.1.length i.2), (14, .i .i64 i.1.length)], [.ro (encByte.row C), .ro (encByte.row D), .rw ty_impl_Task (encTask.row S) (cap * 3), .rw ty_int (encInt.row A) r1, .rw ty_int (encInt.row F) r3, .rw ty_int (encInt.row i.1) i.2]⟩) (fun i => i.1.length ≤ S.length ∧ i.1.length ≤ i.2 ∧ ∀ x ∈ i.1, 0 ≤ x ∧ x < m) (fun i => S.length - i.1.length) ([], 0) ⟨Nat.zero_le _, Nat.le_refl _, by simp⟩ (Wk.pick [0, 1, 2, 3, 5, 6]) ?_
      rintro ⟨L, cap'⟩ ⟨hL, hcap, hLm⟩
      simp only at hL hcap hLm
      simp only [l1_laws_FnPartition, not_true_eq_false, not_false_eq_true, decide_true, decide_false, Bool.not_true, Bool.not_false, false_implies, true_implies, and_true, true_and, Bool.false_eq_true, Bool.true_eq_false, implies_true, Bool.not_not, Classical.not_not, go_sem, Int.reduceToNat, List.take_nil, Nat.zero_mul, Nat.reduceEqDiff, Nat.reduceAdd, Nat.reduceLT, Nat.reduceLeDiff, Nat.reduceMul, ↓reduceIte, reduceCtorEq]
      refine ⟨fun hlt => ?_, fun hge => ?_⟩
      · have next : ∀ y : Int, 0 ≤ y → (0 ≤ y.tmod m ∧ y.tmod m < m) := fun y hy => by
          rw [Int.tmod_eq_emod_of_nonneg hy]
          exact ⟨Int.emod_nonneg _ (by omega), Int.emod_lt_of_pos _ (by omega)⟩
        have e2 : ∀ r : Int, (L ++ [r]).length = L.length + 1 := fun r => by simp
        have e3 : ∀ r : Int, List.take L.length (encInt.row L) ++ [AV.i IntKind.i64 r] = encInt.row (L ++ [r]) := fun r => by simp only [takeI, appI]
        have e4 : ∀ r : Int, 0 ≤ r ∧ r < m → ∀ x ∈ L ++ [r], 0 ≤ x ∧ x < m := fun r hr x hx => by
          rcases List.mem_append.1 hx with hx | hx
          · exact hLm x hx
          · rw [List.mem_singleton] at hx; rw [hx]; exact hr
        refine ⟨fun hkD => ?_, fun hkD => ?_⟩
        · have hb := hD _ (List.getElem_mem hkD)
          simp only [rdB hkD, lenB, lenI, not_true_eq_false, not_false_eq_true, decide_true, decide_false, Bool.not_true, Bool.not_false, false_implies, true_implies, and_true, true_and, Bool.false_eq_true, Bool.true_eq_false, implies_true, Bool.not_not, Classical.not_not, go_sem, Int.reduceToNat, List.take_nil, Nat.zero_mul, Nat.reduceEqDiff, Nat.reduceAdd, Nat.reduceLT, Nat.reduceLeDiff, Nat.reduceMul, ↓reduceIte, reduceCtorEq]
          have hn := next (D[L.length] : Int) (by omega)
          refine ⟨hkD, hkD, by omega, by omega, by omega, fun cap1 h1 => ⟨by omega, (L ++ [((D[L.length] : Nat) : Int).tmod m], cap1), ⟨⟨by simp only [e2]; omega, by simp only [e2]; exact h1, e4 _ hn⟩, by simp only [e2]; omega⟩, ?_⟩⟩
          simp only [e2, e3]
          exact Wk.pick [0, 1, 2, 3, 4, 7]
        · simp only [lenI]
          have hn := next (L.length : Int) (by omega)
          refine ⟨by omega, by omega, fun cap1 h1 => ⟨by omega, (L ++ [(L.length : Int).tmod m], cap1), ⟨⟨by simp only [e2]; omega, by simp only [e2]; exact h1, e4 _ hn⟩, by simp only [e2]; omega⟩, ?_⟩⟩
          simp only [e2, e3]
          exact Wk.pick [0, 1, 2, 3, 4, 7]
      · have hLl : L.length = S.length := by omega
        refine seq_join (fun _ : Unit => ⟨[(5, .sl 2 0 S.length cap), (6, .i .i64 m), (7, .sl 3 0 A.length c1)], [.ro (encByte.row C), .ro (encByte.row D), .rw ty_impl_Task (encTask.row S) (cap * 3), .rw ty_int (encInt.row A) r1]⟩) (fun _ => True) ?_ fun _ _ => ?_
        · simp only [not_true_eq_false, not_false_eq_true, decide_true, decide_false, Bool.not_true, Bool.not_false, false_implies, true_implies, and_true, true_and, Bool.false_eq_true, Bool.true_eq_false, implies_true, Bool.not_not, Classical.not_not, go_sem, Int.reduceToNat, List.take_nil, Nat.zero_mul, Nat.reduceEqDiff, Nat.reduceAdd, Nat.reduceLT, Nat.reduceLeDiff, Nat.reduceMul, ↓reduceIte, reduceCtorEq]
          have hFl : F.length = S.length ∧ Lx A F := by
            rcases hF with ⟨_, h1, h2⟩ | ⟨h, _⟩
            · obtain ⟨B, hB, hL⟩ := h1.search hS h2
              unfold part at hA
              rw [hB] at hA
              obtain rfl := Option.some.inj hA
              exact ⟨h2, hL⟩
            · cases h
          refine loop_count F.length (fun k => ⟨[(5, .sl 2 0 S.length cap), (6, .i .i64 m), (7, .sl 3 0 A.length c1), (11, .sl 4 0 F.length c3), (16, .i .i64 k)], [.ro (encByte.row C), .ro (encByte.row D), .rw ty_impl_Task (encTask.row S) (cap * 3), .rw ty_int (encInt.row A) r1, .rw ty_int (encInt.row F) r3]⟩) (fun k => ∀ j : Nat, j < k → gI A j = gI F j) (fun j hj => absurd hj (Nat.not_lt_zero j)) (Wk.pick [0, 1, 2, 3, 4]) fun k hk hJ => ?_
          simp only [l0_laws_FnPartition, not_true_eq_false, not_false_eq_true, decide_true, decide_false, Bool.not_true, Bool.not_false, false_implies, true_implies, and_true, true_and, Bool.false_eq_true, Bool.true_eq_false, implies_true, Bool.not_not, Classical.not_not, go_sem, Int.reduceToNat, List.take_nil, Nat.zero_mul, Nat.reduceEqDiff, Nat.reduceAdd, Nat.reduceLT, Nat.reduceLeDiff, Nat.reduceMul, ↓reduceIte, reduceCtorEq]
          refine ⟨fun hkF => ?_, fun hkF => kJ_intro () trivial (Wk.pick [0, 1, 2, 3])⟩
          have hkA : k < A.length := by omega
          have gA : gI A k = A[k] := by simp [gI, List.getD_eq_getElem?_getD, hkA]
          have gF : gI F k = F[k] := by simp [gI, List.getD_eq_getElem?_getD, hkF]
          have hlx := fun hne => lx_at hFl.2 hkF hJ hne
          rw [gA, gF] at hlx
          have hJ1 : A[k] = F[k] → ∀ j : Nat, j < k + 1 → gI A j = gI F j := fun he j hj => by
            rcases Nat.lt_or_eq_of_le (Nat.le_of_lt_succ hj) with h1 | rfl
            · exact hJ j h1
            · rw [gA, gF]; exact he
          simp only [rdI hkA, rdI hkF, lenI, not_true_eq_false, not_false_eq_true, decide_true, decide_false, Bool.not_true, Bool.not_false, false_implies, true_implies, and_true, true_and, Bool.false_eq_true, Bool.true_eq_false, implies_true, Bool.not_not, Classical.not_not, go_sem, Int.reduceToNat, List.take_nil, Nat.zero_mul, Nat.reduceEqDiff, Nat.reduceAdd, Nat.reduceLT, Nat.reduceLeDiff, Nat.reduceMul, ↓reduceIte, reduceCtorEq]
          repeat' first | omega | (exfalso; have := hlx (by assumption); omega) | exact kJ_intro () trivial (Wk.pick [0, 1, 2, 3]) | exact Wk.pick [0, 1, 2, 3, 4] | exact hJ1 (by omega) | refine ⟨?_, ?_⟩ | intro _
        · simp only [not_true_eq_false, not_false_eq_true, decide_true, decide_false, Bool.not_true, Bool.not_false, false_implies, true_implies, and_true, true_and, Bool.false_eq_true, Bool.true_eq_false, implies_true, Bool.not_not, Classical.not_not, go_sem, Int.reduceToNat, List.take_nil, Nat.zero_mul, Nat.reduceEqDiff, Nat.reduceAdd, Nat.reduceLT, Nat.reduceLeDiff, Nat.reduceMul, ↓reduceIte, reduceCtorEq]
          refine impl_AssignmentFeasible_ (S := S) (A := A) (by omega) (by omega) (Rd.own rfl) (Rd.own rfl) ?_
          rw [show decide (asgOk S m A) = true from decide_eq_true ⟨hok, hf⟩]
          simp only [not_true_eq_false, not_false_eq_true, decide_true, decide_false, Bool.not_true, Bool.not_false, false_implies, true_implies, and_true, true_and, Bool.false_eq_true, Bool.true_eq_false, implies_true, Bool.not_not, Classical.not_not, go_sem, Int.reduceToNat, List.take_nil, Nat.zero_mul, Nat.reduceEqDiff, Nat.reduceAdd, Nat.reduceLT, Nat.reduceLeDiff, Nat.reduceMul, ↓reduceIte, reduceCtorEq]
          exact Fin.plain rfl
    · simp only [not_true_eq_false, not_false_eq_true, decide_true, decide_false, Bool.not_true, Bool.not_false, false_implies, true_implies, and_true, true_and, Bool.false_eq_true, Bool.true_eq_false, implies_true, Bool.not_not, Classical.not_not, go_sem, Int.reduceToNat, List.take_nil, Nat.zero_mul, Nat.reduceEqDiff, Nat.reduceAdd, Nat.reduceLT, Nat.reduceLeDiff, Nat.reduceMul, ↓reduceIte, reduceCtorEq]
      refine spec_SetValid_ (L := S) (by omega) (Rd.own rfl) ?_
      simp only [hS, not_true_eq_false, not_false_eq_true, decide_true, decide_false, Bool.not_true, Bool.not_false, false_implies, true_implies, and_true, true_and, Bool.false_eq_true, Bool.true_eq_false, implies_true, Bool.not_not, Classical.not_not, go_sem, Int.reduceToNat, List.take_nil, Nat.zero_mul, Nat.reduceEqDiff, Nat.reduceAdd, Nat.reduceLT, Nat.reduceLeDiff, Nat.reduceMul, ↓reduceIte, reduceCtorEq]
      refine ⟨fun h1 => ⟨fun h5 => absurd h5 (by omega), fun h5 => ?_⟩, fun h1 => absurd h1 (by omega)⟩
      refine loop_intro (fun i : List Int × Nat => ⟨[(1, .sl 1 0 D.length d), (5, .sl 2 0 S.length cap), (6, .i .i64 m), (7, .sl 3 0 A.length c1), (8, .b true), (11, .sn), (12, .b false), (13, .sl 4 0 i.1.length i.2), (14, .i .i64 i.1.length)], [.ro (encByte.row C), .ro (encByte.row D), .rw ty_impl_Task (encTask.row S) (cap * 3), .rw ty_int (encInt.row A) r1, .rw ty_int (encInt.row i.1) i.2]⟩) (fun i => i.1.length ≤ S.length ∧ i.1.length ≤ i.2 ∧ ∀ x ∈ i.1, 0 ≤ x ∧ x < m) (fun i => S.length - i.1.length) ([], 0) ⟨Nat.zero_le _, Nat.le_refl _, by simp⟩ (Wk.pick [0, 1, 2, 3, 5]) ?_
      rintro ⟨L, cap'⟩ ⟨hL, hcap, hLm⟩
      simp only at hL hcap hLm
      simp only [l1_laws_FnPartition, not_true_eq_false, not_false_eq_true, decide_true, decide_false, Bool.not_true, Bool.not_false, false_implies, true_implies, and_true, true_and, Bool.false_eq_true, Bool.true_eq_false, implies_true, Bool.not_not, Classical.not_not, go_sem, Int.reduceToNat, List.take_nil, Nat.zero_mul, Nat.reduceEqDiff, Nat.reduceAdd, Nat.reduceLT, Nat.reduceLeDiff, Nat.reduceMul, ↓reduceIte, reduceCtorEq]
      refine ⟨fun hlt => ?_, fun hge => ?_⟩
      · have next : ∀ y : Int, 0 ≤ y → (0 ≤ y.tmod m ∧ y.tmod m < m) := fun y hy => by
          rw [Int.tmod_eq_emod_of_nonneg hy]
          exact ⟨Int.emod_nonneg _ (by omega), Int.emod_lt_of_pos _ (by omega)⟩
        have e2 : ∀ r : Int, (L ++ [r]).length = L.length + 1 := fun r => by simp
        have e3 : ∀ r : Int, List.take L.length (encInt.row L) ++ [AV.i IntKind.i64 r] = encInt.row (L ++ [r]) := fun r => by simp only [takeI, appI]
        have e4 : ∀ r : Int, 0 ≤ r ∧ r < m → ∀ x ∈ L ++ [r], 0 ≤ x ∧ x < m := fun r hr x hx => by
          rcases List.mem_append.1 hx with hx | hx
          · exact hLm x hx
          · rw [List.mem_singleton] at hx; rw [hx]; exact hr
        refine ⟨fun hkD => ?_, fun hkD => ?_⟩
        · have hb := hD _ (List.getElem_mem hkD)
          simp only [rdB hkD, lenB, lenI, not_true_eq_false, not_false_eq_true, decide_true, decide_false, Bool.not_true, Bool.not_false, false_implies, true_implies, and_true, true_and, Bool.false_eq_true, Bool.true_eq_false, implies_true, Bool.not_not, Classical.not_not, go_sem, Int.reduceToNat, List.take_nil, Nat.zero_mul, Nat.reduceEqDiff, Nat.reduceAdd, Nat.reduceLT, Nat.reduceLeDiff, Nat.reduceMul, ↓reduceIte, reduceCtorEq]
          have hn := next (D[L.length] : Int) (by omega)
          refine ⟨hkD, hkD, by omega, by omega, by omega, fun cap1 h1 => ⟨by omega, (L ++ [((D[L.length] : Nat) : Int).tmod m], cap1), ⟨⟨by simp only [e2]; omega, by simp only [e2]; exact h1, e4 _ hn⟩, by simp only [e2]; omega⟩, ?_⟩⟩
          simp only [e2, e3]
          exact Wk.pick [0, 1, 2, 3, 6]
        · simp only [lenI]
          have hn := next (L.length : Int) (by omega)
          refine ⟨by omega, by omega, fun cap1 h1 => ⟨by omega, (L ++ [(L.length : Int).tmod m], cap1), ⟨⟨by simp only [e2]; omega, by simp only [e2]; exact h1, e4 _ hn⟩, by simp only [e2]; omega⟩, ?_⟩⟩
          simp only [e2, e3]
          exact Wk.pick [0, 1, 2, 3, 6]
      · have hLl : L.length = S.length := by omega
        refine seq_join (fun _ : Unit => ⟨[(5, .sl 2 0 S.length cap), (6, .i .i64 m), (7, .sl 3 0 A.length c1)], [.ro (encByte.row C), .ro (encByte.row D), .rw ty_impl_Task (encTask.row S) (cap * 3), .rw ty_int (encInt.row A) r1]⟩) (fun _ => True) ?_ fun _ _ => ?_
        · simp only [not_true_eq_false, not_false_eq_true, decide_true, decide_false, Bool.not_true, Bool.not_false, false_implies, true_implies, and_true, true_and, Bool.false_eq_true, Bool.true_eq_false, implies_true, Bool.not_not, Classical.not_not, go_sem, Int.reduceToNat, List.take_nil, Nat.zero_mul, Nat.reduceEqDiff, Nat.reduceAdd, Nat.reduceLT, Nat.reduceLeDiff, Nat.reduceMul, ↓reduceIte, reduceCtorEq]
          exact kJ_intro () trivial (Wk.pick [0, 1, 2, 3])
        · simp only [not_true_eq_false, not_false_eq_true, decide_true, decide_false, Bool.not_true, Bool.not_false, false_implies, true_implies, and_true, true_and, Bool.false_eq_true, Bool.true_eq_false, implies_true, Bool.not_not, Classical.not_not, go_sem, Int.reduceToNat, List.take_nil, Nat.zero_mul, Nat.reduceEqDiff, Nat.reduceAdd, Nat.reduceLT, Nat.reduceLeDiff, Nat.reduceMul, ↓reduceIte, reduceCtorEq]
          refine impl_AssignmentFeasible_ (S := S) (A := A) (by omega) (by omega) (Rd.own rfl) (Rd.own rfl) ?_
          rw [show decide (asgOk S m A) = true from decide_eq_true ⟨hok, hf⟩]
          simp only [not_true_eq_false, not_false_eq_true, decide_true, decide_false, Bool.not_true, Bool.not_false, false_implies, true_implies, and_true, true_and, Bool.false_eq_true, Bool.true_eq_false, implies_true, Bool.not_not, Classical.not_not, go_sem, Int.reduceToNat, List.take_nil, Nat.zero_mul, Nat.reduceEqDiff, Nat.reduceAdd, Nat.reduceLT, Nat.reduceLeDiff, Nat.reduceMul, ↓reduceIte, reduceCtorEq]
          exact Fin.plain rfl
  · simp only [go_sem, Int.reduceToNat, List.take_nil, Nat.zero_mul, Nat.reduceEqDiff, Nat.reduceAdd, Nat.reduceLT, Nat.reduceLeDiff, Nat.reduceMul, ↓reduceIte, reduceCtorEq]
    refine spec_Partition_ (S := S) (by omega) (Rd.own rfl) fun x τ hx => ?_
    rcases hx with ⟨A', c2, r2, rfl, rfl, hok, hA'⟩ | ⟨rfl, rfl, _⟩
    · rw [hno hok] at hA'; cases hA'
    simp only [not_true_eq_false, not_false_eq_true, decide_true, decide_false, Bool.not_true, Bool.not_false, false_implies, true_implies, and_true, true_and, Bool.false_eq_true, Bool.true_eq_false, implies_true, Bool.not_not, Classical.not_not, go_sem, Int.reduceToNat, List.take_nil, Nat.zero_mul, Nat.reduceEqDiff, Nat.reduceAdd, Nat.reduceLT, Nat.reduceLeDiff, Nat.reduceMul, ↓reduceIte, reduceCtorEq]
    refine laws_sameInts_ (L := []) (M := []) (by simp) (Rd.nul (by simp)) (Rd.empty rfl) ?_
    simp only [not_true_eq_false, not_false_eq_true, decide_true, decide_false, Bool.not_true, Bool.not_false, false_implies, true_implies, and_true, true_and, Bool.false_eq_true, Bool.true_eq_false, implies_true, Bool.not_not, Classical.not_not, go_sem, Int.reduceToNat, List.take_nil, Nat.zero_mul, Nat.reduceEqDiff, Nat.reduceAdd, Nat.reduceLT, Nat.reduceLeDiff, Nat.reduceMul, ↓reduceIte, reduceCtorEq]
    refine impl_FirstFit_ (S := S) (by omega) (Rd.own rfl) fun x τ hx => ?_
    rcases hx with ⟨F, c3, r3, rfl, rfl, hok, hF⟩ | ⟨rfl, rfl, hnF⟩
    · rcases hF with ⟨_, h1, h2⟩ | ⟨h, _⟩
      · obtain ⟨B, hB, _⟩ := h1.search hok.1 h2
        have := hno hok
        unfold part at this
        rw [hB] at this; cases this
      · cases h
    · simp only [not_true_eq_false, not_false_eq_true, decide_true, decide_false, Bool.not_true, Bool.not_false, false_implies, true_implies, and_true, true_and, Bool.false_eq_true, Bool.true_eq_false, implies_true, Bool.not_not, Classical.not_not, go_sem, Int.reduceToNat, List.take_nil, Nat.zero_mul, Nat.reduceEqDiff, Nat.reduceAdd, Nat.reduceLT, Nat.reduceLeDiff, Nat.reduceMul, ↓reduceIte, reduceCtorEq]
      refine spec_SetValid_ (L := S) (by omega) (Rd.own rfl) ?_
      by_cases hS : setOk S
      · simp only [hS, not_true_eq_false, not_false_eq_true, decide_true, decide_false, Bool.not_true, Bool.not_false, false_implies, true_implies, and_true, true_and, Bool.false_eq_true, Bool.true_eq_false, implies_true, Bool.not_not, Classical.not_not, go_sem, Int.reduceToNat, List.take_nil, Nat.zero_mul, Nat.reduceEqDiff, Nat.reduceAdd, Nat.reduceLT, Nat.reduceLeDiff, Nat.reduceMul, ↓reduceIte, reduceCtorEq]
        refine ⟨fun h1 => ⟨fun h5 => ?_, fun h5 => ?_⟩, fun h1 => ?_⟩
        · refine laws_alive_ ?_
          simp only [not_true_eq_false, not_false_eq_true, decide_true, decide_false, Bool.not_true, Bool.not_false, false_implies, true_implies, and_true, true_and, Bool.false_eq_true, Bool.true_eq_false, implies_true, Bool.not_not, Classical.not_not, go_sem, Int.reduceToNat, List.take_nil, Nat.zero_mul, Nat.reduceEqDiff, Nat.reduceAdd, Nat.reduceLT, Nat.reduceLeDiff, Nat.reduceMul, ↓reduceIte, reduceCtorEq]
          exact Fin.plain rfl
        · have hok : coresOk S m := ⟨hS, by omega, by omega⟩
          refine loop_intro (fun i : List Int × Nat => ⟨[(1, .sl 1 0 D.length d), (5, .sl 2 0 S.length cap), (6, .i .i64 m), (7, .sn), (8, .b false), (11, .sn), (12, .b false), (13, .sl 3 0 i.1.length i.2), (14, .i .i64 i.1.length)], [.ro (encByte.row C), .ro (encByte.row D), .rw ty_impl_Task (encTask.row S) (cap * 3), .rw ty_int (encInt.row i.1) i.2]⟩) (fun i => i.1.length ≤ S.length ∧ i.1.length ≤ i.2 ∧ ∀ x ∈ i.1, 0 ≤ x ∧ x < m) (fun i => S.length - i.1.length) ([], 0) ⟨Nat.zero_le _, Nat.le_refl _, by simp⟩ (Wk.pick [0, 1, 2, 4]) ?_
          rintro ⟨L, cap'⟩ ⟨hL, hcap, hLm⟩
          simp only at hL hcap hLm
          simp only [l1_laws_FnPartition, not_true_eq_false, not_false_eq_true, decide_true, decide_false, Bool.not_true, Bool.not_false, false_implies, true_implies, and_true, true_and, Bool.false_eq_true, Bool.true_eq_false, implies_true, Bool.not_not, Classical.not_not, go_sem, Int.reduceToNat, List.take_nil, Nat.zero_mul, Nat.reduceEqDiff, Nat.reduceAdd, Nat.reduceLT, Nat.reduceLeDiff, Nat.reduceMul, ↓reduceIte, reduceCtorEq]
          refine ⟨fun hlt => ?_, fun hge => ?_⟩
          · have next : ∀ y : Int, 0 ≤ y → (0 ≤ y.tmod m ∧ y.tmod m < m) := fun y hy => by
              rw [Int.tmod_eq_emod_of_nonneg hy]
              exact ⟨Int.emod_nonneg _ (by omega), Int.emod_lt_of_pos _ (by omega)⟩
            have e2 : ∀ r : Int, (L ++ [r]).length = L.length + 1 := fun r => by simp
            have e3 : ∀ r : Int, List.take L.length (encInt.row L) ++ [AV.i IntKind.i64 r] = encInt.row (L ++ [r]) := fun r => by simp only [takeI, appI]
            have e4 : ∀ r : Int, 0 ≤ r ∧ r < m → ∀ x ∈ L ++ [r], 0 ≤ x ∧ x < m := fun r hr x hx => by
              rcases List.mem_append.1 hx with hx | hx
              · exact hLm x hx
              · rw [List.mem_singleton] at hx; rw [hx]; exact hr
            refine ⟨fun hkD => ?_, fun hkD => ?_⟩
            · have hb := hD _ (List.getElem_mem hkD)
              simp only [rdB hkD, lenB, lenI, not_true_eq_false, not_false_eq_true, decide_true, decide_false, Bool.not_true, Bool.not_false, false_implies, true_implies, and_true, true_and, Bool.false_eq_true, Bool.true_eq_false, implies_true, Bool.not_not, Classical.not_not, go_sem, Int.reduceToNat, List.take_nil, Nat.zero_mul, Nat.reduceEqDiff, Nat.reduceAdd, Nat.reduceLT, Nat.reduceLeDiff, Nat.reduceMul, ↓reduceIte, reduceCtorEq]
              have hn := next (D[L.length] : Int) (by omega)
              refine ⟨hkD, hkD, by omega, by omega, by omega, fun cap1 h1 => ⟨by omega, (L ++ [((D[L.length] : Nat) : Int).tmod m], cap1), ⟨⟨by simp only [e2]; omega, by simp only [e2]; exact h1, e4 _ hn⟩, by simp only [e2]; omega⟩, ?_⟩⟩
              simp only [e2, e3]
              exact Wk.pick [0, 1, 2, 5]
            · simp only [lenI]
              have hn := next (L.length : Int) (by omega)
              refine ⟨by omega, by omega, fun cap1 h1 => ⟨by omega, (L ++ [(L.length : Int).tmod m], cap1), ⟨⟨by simp only [e2]; omega, by simp only [e2]; exact h1, e4 _ hn⟩, by simp only [e2]; omega⟩, ?_⟩⟩
              simp only [e2, e3]
              exact Wk.pick [0, 1, 2, 5]
          · have hLl : L.length = S.length := by omega
            have hno' : ¬ asgOk S m L := fun h => by
              obtain ⟨B, hB⟩ := dfs_iff.2 ⟨L, h.2⟩
              have := hno hok
              unfold part at this
              rw [hB] at this; cases this
            refine impl_AssignmentFeasible_ (S := S) (A := L) (by omega) (by omega) (Rd.own rfl) (Rd.own rfl) ?_
            rw [decide_eq_false hno']
            simp only [not_true_eq_false, not_false_eq_true, decide_true, decide_false, Bool.not_true, Bool.not_false, false_implies, true_implies, and_true, true_and, Bool.false_eq_true, Bool.true_eq_false, implies_true, Bool.not_not, Classical.not_not, go_sem, Int.reduceToNat, List.take_nil, Nat.zero_mul, Nat.reduceEqDiff, Nat.reduceAdd, Nat.reduceLT, Nat.reduceLeDiff, Nat.reduceMul, ↓reduceIte, reduceCtorEq]
            exact Fin.plain rfl
        · refine laws_alive_ ?_
          simp only [not_true_eq_false, not_false_eq_true, decide_true, decide_false, Bool.not_true, Bool.not_false, false_implies, true_implies, and_true, true_and, Bool.false_eq_true, Bool.true_eq_false, implies_true, Bool.not_not, Classical.not_not, go_sem, Int.reduceToNat, List.take_nil, Nat.zero_mul, Nat.reduceEqDiff, Nat.reduceAdd, Nat.reduceLT, Nat.reduceLeDiff, Nat.reduceMul, ↓reduceIte, reduceCtorEq]
          exact Fin.plain rfl
      · simp only [hS, not_true_eq_false, not_false_eq_true, decide_true, decide_false, Bool.not_true, Bool.not_false, false_implies, true_implies, and_true, true_and, Bool.false_eq_true, Bool.true_eq_false, implies_true, Bool.not_not, Classical.not_not, go_sem, Int.reduceToNat, List.take_nil, Nat.zero_mul, Nat.reduceEqDiff, Nat.reduceAdd, Nat.reduceLT, Nat.reduceLeDiff, Nat.reduceMul, ↓reduceIte, reduceCtorEq]
        refine laws_alive_ ?_
        simp only [not_true_eq_false, not_false_eq_true, decide_true, decide_false, Bool.not_true, Bool.not_false, false_implies, true_implies, and_true, true_and, Bool.false_eq_true, Bool.true_eq_false, implies_true, Bool.not_not, Classical.not_not, go_sem, Int.reduceToNat, List.take_nil, Nat.zero_mul, Nat.reduceEqDiff, Nat.reduceAdd, Nat.reduceLT, Nat.reduceLeDiff, Nat.reduceMul, ↓reduceIte, reduceCtorEq]
        exact Fin.plain rfl
theorem c_FnPartition (C : List Nat) (c : Nat) (D : List Nat) (d : Nat) (hC : ∀ x ∈ C, x < 256) (_ : C.length * 1 ≤ 140737488351232) (_ : C.length ≤ c) (hD : ∀ x ∈ D, x < 256) (_ : D.length * 1 ≤ 140737488351232) (_ : D.length ≤ d) :
    CallWp Try.prog n_laws_FnPartition [.sl 0 0 C.length c, .sl 1 0 D.length d] [.ro (encByte.row C), .ro (encByte.row D)] (fun x _ => x = .b true) := laws_FnPartition0 C D hC hD c d
end Go.Proofs.Ytfngcejaphhmmaa
