import Derived.Test.YtfngcejaphhmmaaGreatDoorC1
import Derived.Test.YtfngcejaphhmmaaGreatDoorMM
namespace Go.Proofs.YtfngcejaphhmmaaGreatDoor
open Go.Abs Go.Ds
set_option linter.unusedSimpArgs false
set_option linter.unusedVariables false
theorem slices_Index_int0 (L : List Int) (n : Int) (hs : L.length ≤ 1099511627776) (c : Nat) : CallWp Tryz.prog n_slices_Index_int [.sl 0 0 L.length c, .i .i64 n] [.ro (encInt.row L)] (fun x σ => x = .i .i64 (idxF (fun y => decide (y = n)) L) ∧ σ = [.ro (encInt.row L)]) := by
  refine call_slices_Index_int (by simp) ?_
  simp only [c_slices_Index_int, go_sem, Int.reduceToNat, List.take_nil, Nat.zero_mul, Nat.reduceEqDiff, Nat.reduceAdd, Nat.reduceLT, Nat.reduceLeDiff, Nat.reduceMul, ↓reduceIte, reduceCtorEq]
  refine loop_count L.length (fun k => ⟨[(0, .sl 0 0 L.length c), (1, .i .i64 n), (7, .i .i64 L.length), (8, .i .i64 k)], [.ro (encInt.row L)]⟩) (fun k => ∀ x ∈ L.take k, decide (x = n) = false) (by simp) (Wk.pick [0]) fun k hk hJ => ?_
  simp only [l0_slices_Index_int, go_sem, Int.reduceToNat, List.take_nil, Nat.zero_mul, Nat.reduceEqDiff, Nat.reduceAdd, Nat.reduceLT, Nat.reduceLeDiff, Nat.reduceMul, ↓reduceIte, reduceCtorEq, lenT, rdT0, rdT1, rdT2, winT, takeT, appT, splT, splI, winI, lenI, rdI, takeI, appI]
  refine ⟨fun h => ?_, fun h => Fin.same ?_⟩
  · simp only [go_sem, Int.reduceToNat, List.take_nil, Nat.zero_mul, Nat.reduceEqDiff, Nat.reduceAdd, Nat.reduceLT, Nat.reduceLeDiff, Nat.reduceMul, ↓reduceIte, reduceCtorEq, lenT, rdT0, rdT1, rdT2, winT, takeT, appT, splT, splI, winI, lenI, rdI, takeI, appI, h]
    refine ⟨fun e => Fin.same ?_, fun e => ⟨by omega, ?_, Wk.pick [0]⟩⟩
    · congr 1; rw [idxF_found h hJ (by simp [e])]
    · rw [all_take_succ h]; exact ⟨hJ, by simp; exact fun e' => e e'.symm⟩
  · have e : k = L.length := by omega
    subst e
    rw [List.take_length] at hJ
    rw [idxF_none hJ]
theorem slices_Index_int_ {L : List Int} (n : Int) (hs : L.length ≤ 1099511627776) {v : AV} {σ : List AB} (h : Rd encInt σ v L) {K : AV → List AB → Prop} (hk : K (.i .i64 (idxF (fun y => decide (y = n)) L)) σ) : CallWp Tryz.prog n_slices_Index_int [v, .i .i64 n] σ K :=
  call_rds _ (rds1 h.r) (fun c => [.sl 0 0 L.length (c 0), .i .i64 n]) (fun c => slices_Index_int0 L n hs (c 0)) (fun ν c h => ⟨h.1, .inl rfl, trivial⟩) (fun _ => rfl) rfl hk
theorem spec_l4Index0 (L : List Int) (n : Int) (hs : L.length ≤ 1099511627776) (c : Nat) : CallWp Tryz.prog n_spec_l4Index [.sl 0 0 L.length c, .i .i64 n] [.ro (encInt.row L)] (fun x σ => x = .i .i64 (idxF (fun y => decide (y = n)) L) ∧ σ = [.ro (encInt.row L)]) := by
  refine call_spec_l4Index (by simp) ?_
  simp only [c_spec_l4Index, go_sem, Int.reduceToNat, List.take_nil, Nat.zero_mul, Nat.reduceEqDiff, Nat.reduceAdd, Nat.reduceLT, Nat.reduceLeDiff, Nat.reduceMul, ↓reduceIte, reduceCtorEq]
  refine loop_count L.length (fun k => ⟨[(0, .sl 0 0 L.length c), (1, .i .i64 n), (5, .i .i64 k)], [.ro (encInt.row L)]⟩) (fun k => ∀ x ∈ L.take k, decide (x = n) = false) (by simp) (Wk.pick [0]) fun k hk hJ => ?_
  simp only [l0_spec_l4Index, go_sem, Int.reduceToNat, List.take_nil, Nat.zero_mul, Nat.reduceEqDiff, Nat.reduceAdd, Nat.reduceLT, Nat.reduceLeDiff, Nat.reduceMul, ↓reduceIte, reduceCtorEq, lenT, rdT0, rdT1, rdT2, winT, takeT, appT, splT, splI, winI, lenI, rdI, takeI, appI]
  refine ⟨fun h => ?_, fun h => Fin.same ?_⟩
  · simp only [go_sem, Int.reduceToNat, List.take_nil, Nat.zero_mul, Nat.reduceEqDiff, Nat.reduceAdd, Nat.reduceLT, Nat.reduceLeDiff, Nat.reduceMul, ↓reduceIte, reduceCtorEq, lenT, rdT0, rdT1, rdT2, winT, takeT, appT, splT, splI, winI, lenI, rdI, takeI, appI, h]
    refine ⟨fun e => Fin.same ?_, fun e => ⟨by omega, ?_, Wk.pick [0]⟩⟩
    · congr 1; rw [idxF_found h hJ (by simp [e])]
    · rw [all_take_succ h]; exact ⟨hJ, by simp; exact fun e' => e e'⟩
  · have e : k = L.length := by omega
    subst e
    rw [List.take_length] at hJ
    rw [idxF_none hJ]
theorem spec_l4Index_ {L : List Int} (n : Int) (hs : L.length ≤ 1099511627776) {v : AV} {σ : List AB} (h : Rd encInt σ v L) {K : AV → List AB → Prop} (hk : K (.i .i64 (idxF (fun y => decide (y = n)) L)) σ) : CallWp Tryz.prog n_spec_l4Index [v, .i .i64 n] σ K :=
  call_rds _ (rds1 h.r) (fun c => [.sl 0 0 L.length (c 0), .i .i64 n]) (fun c => spec_l4Index0 L n hs (c 0)) (fun ν c h => ⟨h.1, .inl rfl, trivial⟩) (fun _ => rfl) rfl hk
theorem Rd.first {α : Type} {E : Enc α} {σ : List AB} {n cap k : Nat} {L : List α} (h : cellsOf σ n = some (E.row L)) (hk : k ≤ L.length) : Rd E σ (.sl n 0 k cap) (L.take k) := by
  have hl : (L.take k).length = k := by rw [List.length_take]; omega
  refine .inl ⟨n, 0, cap, E.row L, by rw [hl], ?_, h, ?_, ?_⟩
  · rcases cellsOf_cases h with hh | ⟨_, _, hh⟩ <;> exact (List.getElem?_eq_some_iff.1 hh).1
  · rw [hl, E.row_length, Nat.zero_add]; exact Nat.mul_le_mul_right _ hk
  · rw [hl]; simp only [win, List.drop_zero]; exact E.take L k
theorem impl_OrderValid0 (S : List Task) (O : List Int) (hs : S.length ≤ 1099511627776) (ho : O.length ≤ 1099511627776) (c c' : Nat) : CallWp Tryz.prog n_impl_OrderValid [.sl 0 0 S.length c, .sl 1 0 O.length c'] [.ro (encTask.row S), .ro (encInt.row O)]
    (fun x σ => x = .b (decide (ordOk S O)) ∧ σ = [.ro (encTask.row S), .ro (encInt.row O)]) := by
  refine call_impl_OrderValid (by simp) ?_
  simp only [c_impl_OrderValid, go_sem, Int.reduceToNat, List.take_nil, Nat.zero_mul, Nat.reduceEqDiff, Nat.reduceAdd, Nat.reduceLT, Nat.reduceLeDiff, Nat.reduceMul, ↓reduceIte, reduceCtorEq]
  refine loop_count O.length (fun k => ⟨[(0, .sl 0 0 S.length c), (1, .sl 1 0 O.length c'), (7, .sl 1 0 O.length c'), (8, .i .i64 O.length), (9, .i .i64 k)], [.ro (encTask.row S), .ro (encInt.row O)]⟩) (fun k => (∀ x ∈ O.take k, 0 ≤ x ∧ x < S.length) ∧ (O.take k).Nodup) (by simp) (Wk.pick [0, 1]) fun k hk hJ => ?_
  simp only [l0_impl_OrderValid, go_sem, Int.reduceToNat, List.take_nil, Nat.zero_mul, Nat.reduceEqDiff, Nat.reduceAdd, Nat.reduceLT, Nat.reduceLeDiff, Nat.reduceMul, ↓reduceIte, reduceCtorEq, lenT, rdT0, rdT1, rdT2, winT, takeT, appT, splT, splI, winI, lenI, rdI, takeI, appI]
  refine ⟨fun h => ?_, fun h => ?_⟩
  · simp only [go_sem, Int.reduceToNat, List.take_nil, Nat.zero_mul, Nat.reduceEqDiff, Nat.reduceAdd, Nat.reduceLT, Nat.reduceLeDiff, Nat.reduceMul, ↓reduceIte, reduceCtorEq, lenT, rdT0, rdT1, rdT2, winT, takeT, appT, splT, splI, winI, lenI, rdI, takeI, appI, h]
    refine ⟨by omega, impl_in_ _ _ _ ?_⟩
    simp only [go_sem, Int.reduceToNat, List.take_nil, Nat.zero_mul, Nat.reduceEqDiff, Nat.reduceAdd, Nat.reduceLT, Nat.reduceLeDiff, Nat.reduceMul, ↓reduceIte, reduceCtorEq, lenT, rdT0, rdT1, rdT2, winT, takeT, appT, splT, splI, winI, lenI, rdI, takeI, appI, h]
    refine ⟨fun h1 => ?_, fun h1 => Fin.same ?_⟩
    · refine slices_Index_int_ _ ho (Rd.own rfl) ?_
      simp only [go_sem, Int.reduceToNat, List.take_nil, Nat.zero_mul, Nat.reduceEqDiff, Nat.reduceAdd, Nat.reduceLT, Nat.reduceLeDiff, Nat.reduceMul, ↓reduceIte, reduceCtorEq, lenT, rdT0, rdT1, rdT2, winT, takeT, appT, splT, splI, winI, lenI, rdI, takeI, appI, h]
      refine ⟨fun h2 => Fin.same ?_, fun h2 => ⟨by omega, ⟨(all_take_succ h).2 ⟨hJ.1, by omega⟩, (nodup_take_succ h).2 ⟨hJ.2, (idxF_own h).1 h2⟩⟩, Wk.pick [0, 1]⟩⟩
      congr 1; symm; apply decide_eq_false
      intro hh
      refine h2 ((idxF_own h).2 ?_)
      exact ((nodup_take_succ h).1 (hh.2.2.2.sublist (List.take_sublist _ _))).2
    · congr 1; symm; apply decide_eq_false
      intro hh
      have := hh.2.2.1 _ (List.getElem_mem h)
      omega
  · have e : k = O.length := by omega
    subst e
    rw [List.take_length] at hJ
    refine impl_SetValid_ hs (Rd.own rfl) ?_
    simp only [go_sem, Int.reduceToNat, List.take_nil, Nat.zero_mul, Nat.reduceEqDiff, Nat.reduceAdd, Nat.reduceLT, Nat.reduceLeDiff, Nat.reduceMul, ↓reduceIte, reduceCtorEq, lenT, rdT0, rdT1, rdT2, winT, takeT, appT, splT, splI, winI, lenI, rdI, takeI, appI]
    refine ⟨fun h1 => Fin.same ?_, fun h1 => Fin.same ?_⟩
    · congr 1; apply decide_eq_decide.2
      exact ⟨fun h2 => ⟨h1, h2, hJ.1, hJ.2⟩, fun h2 => h2.2.1⟩
    · congr 1; symm; apply decide_eq_false
      exact fun h2 => h1 h2.1
theorem impl_OrderValid_ {S : List Task} {O : List Int} (hs : S.length ≤ 1099511627776) (ho : O.length ≤ 1099511627776) {v u : AV} {σ : List AB} (h : Rd encTask σ v S) (h' : Rd encInt σ u O) {K : AV → List AB → Prop} (hk : K (.b (decide (ordOk S O))) σ) : CallWp Tryz.prog n_impl_OrderValid [v, u] σ K :=
  call_rds _ (rds_cons h.r (rds1 h'.r)) (fun c => [.sl 0 0 S.length (c 0), .sl 1 0 O.length (c 1)]) (fun c => impl_OrderValid0 S O hs ho (c 0) (c 1)) (fun ν c h => ⟨h.1, h.2.1, trivial⟩) (fun _ => rfl) rfl hk
theorem spec_OrderValid0 (S : List Task) (O : List Int) (hs : S.length ≤ 1099511627776) (ho : O.length ≤ 1099511627776) (c c' : Nat) : CallWp Tryz.prog n_spec_OrderValid [.sl 0 0 S.length c, .sl 1 0 O.length c'] [.ro (encTask.row S), .ro (encInt.row O)]
    (fun x σ => x = .b (decide (ordOk S O)) ∧ σ = [.ro (encTask.row S), .ro (encInt.row O)]) := by
  refine call_spec_OrderValid (by simp) ?_
  simp only [c_spec_OrderValid, go_sem, Int.reduceToNat, List.take_nil, Nat.zero_mul, Nat.reduceEqDiff, Nat.reduceAdd, Nat.reduceLT, Nat.reduceLeDiff, Nat.reduceMul, ↓reduceIte, reduceCtorEq]
  refine spec_SetValid_ hs (Rd.own rfl) ?_
  simp only [go_sem, Int.reduceToNat, List.take_nil, Nat.zero_mul, Nat.reduceEqDiff, Nat.reduceAdd, Nat.reduceLT, Nat.reduceLeDiff, Nat.reduceMul, ↓reduceIte, reduceCtorEq]
  refine ⟨fun h1 => ⟨fun h2 => Fin.same ?_, fun h2 => ?_⟩, fun h1 => Fin.same ?_⟩
  · congr 1; symm; apply decide_eq_false
    exact fun hh => h2 hh.2.1
  · refine loop_count O.length (fun k => ⟨[(0, .sl 0 0 S.length c), (1, .sl 1 0 O.length c'), (5, .i .i64 k)], [.ro (encTask.row S), .ro (encInt.row O)]⟩) (fun k => (∀ x ∈ O.take k, 0 ≤ x ∧ x < S.length) ∧ (O.take k).Nodup) (by simp) (Wk.pick [0, 1]) fun k hk hJ => ?_
    simp only [l0_spec_OrderValid, go_sem, Int.reduceToNat, List.take_nil, Nat.zero_mul, Nat.reduceEqDiff, Nat.reduceAdd, Nat.reduceLT, Nat.reduceLeDiff, Nat.reduceMul, ↓reduceIte, reduceCtorEq, lenT, rdT0, rdT1, rdT2, winT, takeT, appT, splT, splI, winI, lenI, rdI, takeI, appI]
    refine ⟨fun h => ?_, fun h => Fin.same ?_⟩
    · simp only [go_sem, Int.reduceToNat, List.take_nil, Nat.zero_mul, Nat.reduceEqDiff, Nat.reduceAdd, Nat.reduceLT, Nat.reduceLeDiff, Nat.reduceMul, ↓reduceIte, reduceCtorEq, lenT, rdT0, rdT1, rdT2, winT, takeT, appT, splT, splI, winI, lenI, rdI, takeI, appI, h]
      refine ⟨by omega, onCall.by (spec_l1In_ _ _ _ ⟨rfl, rfl⟩) ?_⟩
      simp only [go_sem, Int.reduceToNat, List.take_nil, Nat.zero_mul, Nat.reduceEqDiff, Nat.reduceAdd, Nat.reduceLT, Nat.reduceLeDiff, Nat.reduceMul, ↓reduceIte, reduceCtorEq, lenT, rdT0, rdT1, rdT2, winT, takeT, appT, splT, splI, winI, lenI, rdI, takeI, appI, h]
      refine ⟨fun h3 => ?_, fun h3 => Fin.same ?_⟩
      · refine ⟨by omega, onCall.by (spec_l4Index_ (L := O.take k) _ (by simp; omega) (Rd.first rfl (by omega)) ⟨rfl, rfl⟩) ?_⟩
        simp only [go_sem, Int.reduceToNat, List.take_nil, Nat.zero_mul, Nat.reduceEqDiff, Nat.reduceAdd, Nat.reduceLT, Nat.reduceLeDiff, Nat.reduceMul, ↓reduceIte, reduceCtorEq, lenT, rdT0, rdT1, rdT2, winT, takeT, appT, splT, splI, winI, lenI, rdI, takeI, appI, h]
        refine ⟨fun h4 => Fin.same ?_, fun h4 => ⟨by omega, ⟨(all_take_succ h).2 ⟨hJ.1, by omega⟩, (nodup_take_succ h).2 ⟨hJ.2, fun hm => h4 (idxF_mem.2 hm)⟩⟩, Wk.pick [0, 1]⟩⟩
        congr 1; symm; apply decide_eq_false
        intro hh
        exact ((nodup_take_succ h).1 (hh.2.2.2.sublist (List.take_sublist _ _))).2 (idxF_mem.1 h4)
      · congr 1; symm; apply decide_eq_false
        intro hh
        have := hh.2.2.1 _ (List.getElem_mem h)
        omega
    · rw [List.take_of_length_le (by omega)] at hJ
      congr 1; symm; apply decide_eq_true
      exact ⟨h1, by omega, hJ.1, hJ.2⟩
  · congr 1; symm; apply decide_eq_false
    exact fun hh => h1 hh.1
theorem spec_OrderValid_ {S : List Task} {O : List Int} (hs : S.length ≤ 1099511627776) (ho : O.length ≤ 1099511627776) {v u : AV} {σ : List AB} (h : Rd encTask σ v S) (h' : Rd encInt σ u O) {K : AV → List AB → Prop} (hk : K (.b (decide (ordOk S O))) σ) : CallWp Tryz.prog n_spec_OrderValid [v, u] σ K :=
  call_rds _ (rds_cons h.r (rds1 h'.r)) (fun c => [.sl 0 0 S.length (c 0), .sl 1 0 O.length (c 1)]) (fun c => spec_OrderValid0 S O hs ho (c 0) (c 1)) (fun ν c h => ⟨h.1, h.2.1, trivial⟩) (fun _ => rfl) rfl hk
end Go.Proofs.YtfngcejaphhmmaaGreatDoor
