import Derived.Test.YtnlciginmeebhaaSP
import Derived.Test.YtnlciginmeebhaaS19
import Derived.Test.YtnlciginmeebhaaM41
namespace Go.Proofs.Ytnlciginmeebhaa
open Go.Abs Go.Ds
set_option linter.unusedSimpArgs false
set_option linter.unusedVariables false
set_option maxRecDepth 20000
set_option maxHeartbeats 2000000
theorem den_le {X : List Srv} (hX : srvOk X) : ∀ n, n ≤ X.length → 1 ≤ srvDen (X.take n) ∧ srvDen (X.take n) ≤ 12 ^ n
  | 0, _ => by rw [List.take_zero]; exact ⟨Int.le_refl _, by decide⟩
  | n + 1, h => by
    have ih := den_le hX n (by omega)
    have hx := hX.2 _ (List.getElem_mem (show n < X.length by omega))
    unfold Srv.ok at hx
    rw [List.take_succ_eq_append_getElem (show n < X.length by omega), srvDen_snoc]
    refine ⟨?_, ?_⟩
    · have := Int.mul_le_mul ih.1 (show 1 ≤ (X[n]'(by omega)).P by omega) (by omega) (by omega)
      omega
    · rw [Int.pow_succ]
      exact Int.mul_le_mul ih.2 hx.2 (by omega) (by omega)
theorem num_le {X : List Srv} (hX : srvOk X) {D : Int} (hD : 0 ≤ D ∧ D ≤ 144) : ∀ n, n ≤ X.length → 0 ≤ srvNumD D (X.take n) ∧ srvNumD D (X.take n) ≤ 1728 * n
  | 0, _ => by rw [List.take_zero]; exact ⟨Int.le_refl _, by show (0 : Int) ≤ 1728 * ((0 : Nat) : Int); decide⟩
  | n + 1, h => by
    have ih := num_le hX hD n (by omega)
    have hx := hX.2 _ (List.getElem_mem (show n < X.length by omega))
    unfold Srv.ok at hx
    rw [List.take_succ_eq_append_getElem (show n < X.length by omega), srvNumD_snoc]
    have h1 : 0 ≤ D / (X[n]'(by omega)).P := Int.ediv_nonneg hD.1 (by omega)
    have h2 : D / (X[n]'(by omega)).P ≤ 144 := Int.le_trans (Int.ediv_le_self _ hD.1) hD.2
    have h3 : 0 ≤ D / (X[n]'(by omega)).P * (X[n]'(by omega)).B := Int.mul_nonneg h1 (by omega)
    have h4 : D / (X[n]'(by omega)).P * (X[n]'(by omega)).B ≤ 144 * 12 := Int.mul_le_mul h2 (by omega) (by omega) (by omega)
    omega
theorem impl_ServersFeasible0 (S : List Task) (X : List Srv) (hs : S.length ≤ 1048576) (hx : X.length ≤ 1048576) (c c' : Nat) : CallWp Try.prog n_impl_ServersFeasible [.sl 0 0 S.length c, .sl 1 0 X.length c'] [.ro (encTask.row S), .ro (encSrv.row X)] (fun x σ => x = .b (decide (srvFeas S X)) ∧ σ = [.ro (encTask.row S), .ro (encSrv.row X)]) := by
  refine call_impl_ServersFeasible (by simp) ?_
  simp only [c_impl_ServersFeasible, go_sem, Int.reduceToNat, List.take_nil, Nat.zero_mul, Nat.reduceEqDiff, Nat.reduceAdd, Nat.reduceLT, Nat.reduceLeDiff, Nat.reduceMul, ↓reduceIte, reduceCtorEq]
  refine impl_SetValid_ (L := S) (by omega) (Rd.own rfl) ?_
  simp only [not_true_eq_false, not_false_eq_true, decide_true, decide_false, Bool.not_true, Bool.not_false, false_implies, true_implies, and_true, true_and, Bool.false_eq_true, Bool.true_eq_false, implies_true, Bool.not_not, Classical.not_not, go_sem, Int.reduceToNat, List.take_nil, Nat.zero_mul, Nat.reduceEqDiff, Nat.reduceAdd, Nat.reduceLT, Nat.reduceLeDiff, Nat.reduceMul, ↓reduceIte, reduceCtorEq]
  refine ⟨fun hS => ?_, fun hS => Fin.plain ⟨by rw [decide_eq_false fun h => hS h.1], rfl⟩⟩
  refine impl_ServersValid_ (L := X) (by omega) (Rd.own rfl) ?_
  simp only [not_true_eq_false, not_false_eq_true, decide_true, decide_false, Bool.not_true, Bool.not_false, false_implies, true_implies, and_true, true_and, Bool.false_eq_true, Bool.true_eq_false, implies_true, Bool.not_not, Classical.not_not, go_sem, Int.reduceToNat, List.take_nil, Nat.zero_mul, Nat.reduceEqDiff, Nat.reduceAdd, Nat.reduceLT, Nat.reduceLeDiff, Nat.reduceMul, ↓reduceIte, reduceCtorEq]
  refine ⟨fun hX => Fin.plain ⟨by rw [decide_eq_false fun h => hX h.2.1], rfl⟩, fun hX => ?_⟩
  have hX2 := hX.1
  have p12 : (12 : Int) ^ X.length ≤ 144 := by
    rcases (show X.length = 0 ∨ X.length = 1 ∨ X.length = 2 by omega) with e | e | e <;> rw [e] <;> decide
  refine loop_count X.length (fun k => ⟨[(0, .sl 0 0 S.length c), (1, .sl 1 0 X.length c'), (5, .i .i64 (srvDen (X.take k))), (6, .i .i64 0), (20, .sl 1 0 X.length c'), (21, .i .i64 X.length), (22, .i .i64 k)], [.ro (encTask.row S), .ro (encSrv.row X)]⟩) (fun _ => True) trivial (Wk.keep (by simp [look_cons, srvDen])) fun k hk _ => ?_
  simp only [l2_impl_ServersFeasible, not_true_eq_false, not_false_eq_true, decide_true, decide_false, Bool.not_true, Bool.not_false, false_implies, true_implies, and_true, true_and, Bool.false_eq_true, Bool.true_eq_false, implies_true, Bool.not_not, Classical.not_not, go_sem, Int.reduceToNat, List.take_nil, Nat.zero_mul, Nat.reduceEqDiff, Nat.reduceAdd, Nat.reduceLT, Nat.reduceLeDiff, Nat.reduceMul, ↓reduceIte, reduceCtorEq]
  refine ⟨fun hl => ?_, fun hl => ?_⟩
  · have hd := den_le hX k (by omega)
    have hxk := hX.2 _ (List.getElem_mem hl)
    unfold Srv.ok at hxk
    have hsn := srvDen_snoc (X.take k) X[k]
    rw [← List.take_succ_eq_append_getElem hl] at hsn
    have hd1 := den_le hX (k + 1) (by omega)
    have pk : (12 : Int) ^ (k + 1) ≤ 144 := by
      rcases (show k + 1 = 1 ∨ k + 1 = 2 by omega) with e | e <;> rw [e] <;> decide
    rw [hsn] at hd1 ⊢
    simp only [winSv hl, encSvf, lenSv, not_true_eq_false, not_false_eq_true, decide_true, decide_false, Bool.not_true, Bool.not_false, false_implies, true_implies, and_true, true_and, Bool.false_eq_true, Bool.true_eq_false, implies_true, Bool.not_not, Classical.not_not, go_sem, Int.reduceToNat, List.take_nil, Nat.zero_mul, Nat.reduceEqDiff, Nat.reduceAdd, Nat.reduceLT, Nat.reduceLeDiff, Nat.reduceMul, ↓reduceIte, reduceCtorEq]
    refine ⟨hl, by omega, by omega, by omega, hl, Wk.pick [0, 1]⟩
  · have e : k = X.length := by omega
    subst e
    rw [List.take_length]
    have hd := den_le hX X.length (Nat.le_refl _)
    rw [List.take_length] at hd
    have hnum := fun n (h : n ≤ X.length) => num_le hX (D := srvDen X) (by omega) n h
    have e0 : srvNumD (srvDen X) (X.take 0) = 0 := rfl
    refine loop_count X.length (fun k => ⟨[(0, .sl 0 0 S.length c), (5, .i .i64 (srvDen X)), (6, .i .i64 (srvNumD (srvDen X) (X.take k))), (31, .sl 1 0 X.length c'), (32, .i .i64 X.length), (33, .i .i64 k)], [.ro (encTask.row S), .ro (encSrv.row X)]⟩) (fun _ => True) trivial (Wk.keep (by simp [look_cons, srvNumD])) fun k hk _ => ?_
    simp only [l1_impl_ServersFeasible, not_true_eq_false, not_false_eq_true, decide_true, decide_false, Bool.not_true, Bool.not_false, false_implies, true_implies, and_true, true_and, Bool.false_eq_true, Bool.true_eq_false, implies_true, Bool.not_not, Classical.not_not, go_sem, Int.reduceToNat, List.take_nil, Nat.zero_mul, Nat.reduceEqDiff, Nat.reduceAdd, Nat.reduceLT, Nat.reduceLeDiff, Nat.reduceMul, ↓reduceIte, reduceCtorEq]
    refine ⟨fun hl => ?_, fun hl => ?_⟩
    · have hxk := hX.2 _ (List.getElem_mem hl)
      unfold Srv.ok at hxk
      have hsn := srvNumD_snoc (srvDen X) (X.take k) X[k]
      rw [← List.take_succ_eq_append_getElem hl] at hsn
      have h1 := hnum k (by omega)
      have h2 := hnum (k + 1) (by omega)
      have e1 : (srvDen X).tdiv X[k].P = srvDen X / X[k].P := Int.tdiv_eq_ediv_of_nonneg (by omega)
      have h5 : 0 ≤ srvDen X / X[k].P := Int.ediv_nonneg (by omega) (by omega)
      have h6 : srvDen X / X[k].P ≤ srvDen X := Int.ediv_le_self _ (by omega)
      rw [hsn] at h2 ⊢
      simp only [winSv hl, encSvf, lenSv, e1, not_true_eq_false, not_false_eq_true, decide_true, decide_false, Bool.not_true, Bool.not_false, false_implies, true_implies, and_true, true_and, Bool.false_eq_true, Bool.true_eq_false, implies_true, Bool.not_not, Classical.not_not, go_sem, Int.reduceToNat, List.take_nil, Nat.zero_mul, Nat.reduceEqDiff, Nat.reduceAdd, Nat.reduceLT, Nat.reduceLeDiff, Nat.reduceMul, ↓reduceIte, reduceCtorEq]
      have pb0 : 0 ≤ srvDen X / X[k].P * X[k].B := Int.mul_nonneg h5 (by omega)
      generalize srvDen X / X[k].P * X[k].B = pb at *
      exact ⟨hl, by omega, by omega, by omega, by omega, by omega, by omega, hl, Wk.pick [0, 1]⟩
    · have e : k = X.length := by omega
      subst e
      rw [List.take_length]
      have hn := hnum X.length (Nat.le_refl _)
      rw [List.take_length] at hn
      have hH := hyperN_bound hS (Nat.le_refl S.length)
      rw [List.take_length] at hH
      refine loop_count (hyperN S) (fun k => ⟨[(0, .sl 0 0 S.length c), (5, .i .i64 (srvDen X)), (6, .i .i64 (srvNumD (srvDen X) X)), (11, .i .i64 ((k : Int) + 1))], [.ro (encTask.row S), .ro (encSrv.row X)]⟩) (fun k => ∀ t : Int, 1 ≤ t → t < (k : Int) + 1 → dbf S t * srvDen X + t * srvNum X ≤ t * srvDen X) (fun t h1 h2 => by omega) (Wk.keep (by simp [look_cons])) fun k hk hJ => ?_
      simp only [l0_impl_ServersFeasible, not_true_eq_false, not_false_eq_true, decide_true, decide_false, Bool.not_true, Bool.not_false, false_implies, true_implies, and_true, true_and, Bool.false_eq_true, Bool.true_eq_false, implies_true, Bool.not_not, Classical.not_not, go_sem, Int.reduceToNat, List.take_nil, Nat.zero_mul, Nat.reduceEqDiff, Nat.reduceAdd, Nat.reduceLT, Nat.reduceLeDiff, Nat.reduceMul, ↓reduceIte, reduceCtorEq]
      refine impl_hyper_ hS (Rd.own rfl) ?_
      simp only [not_true_eq_false, not_false_eq_true, decide_true, decide_false, Bool.not_true, Bool.not_false, false_implies, true_implies, and_true, true_and, Bool.false_eq_true, Bool.true_eq_false, implies_true, Bool.not_not, Classical.not_not, go_sem, Int.reduceToNat, List.take_nil, Nat.zero_mul, Nat.reduceEqDiff, Nat.reduceAdd, Nat.reduceLT, Nat.reduceLeDiff, Nat.reduceMul, ↓reduceIte, reduceCtorEq]
      refine ⟨fun hle => impl_demand_ hS (by omega) (Rd.own rfl) ?_, fun hgt => ?_⟩
      · simp only [not_true_eq_false, not_false_eq_true, decide_true, decide_false, Bool.not_true, Bool.not_false, false_implies, true_implies, and_true, true_and, Bool.false_eq_true, Bool.true_eq_false, implies_true, Bool.not_not, Classical.not_not, go_sem, Int.reduceToNat, List.take_nil, Nat.zero_mul, Nat.reduceEqDiff, Nat.reduceAdd, Nat.reduceLT, Nat.reduceLeDiff, Nat.reduceMul, ↓reduceIte, reduceCtorEq]
        have hb2 := dbfN_bound hS (show (0 : Int) ≤ (k : Int) + 1 by omega) S.length (Nat.le_refl _)
        rw [← dbf_all] at hb2
        have h5 := hS.1
        have hb3 : ((k : Int) + 1 + 1) * 8 * (S.length : Int) ≤ 221768 * 5 := Int.mul_le_mul (by omega) (by omega) (by omega) (by omega)
        have m1 : 0 ≤ dbf S ((k : Int) + 1) * srvDen X ∧ dbf S ((k : Int) + 1) * srvDen X ≤ 1108840 * 144 := ⟨Int.mul_nonneg (by omega) (by omega), Int.mul_le_mul (by omega) (by omega) (by omega) (by omega)⟩
        have m2 : 0 ≤ ((k : Int) + 1) * srvNumD (srvDen X) X ∧ ((k : Int) + 1) * srvNumD (srvDen X) X ≤ 27721 * 3456 := ⟨Int.mul_nonneg (by omega) (by omega), Int.mul_le_mul (by omega) (by omega) (by omega) (by omega)⟩
        have m3 : 0 ≤ ((k : Int) + 1) * srvDen X ∧ ((k : Int) + 1) * srvDen X ≤ 27721 * 144 := ⟨Int.mul_nonneg (by omega) (by omega), Int.mul_le_mul (by omega) (by omega) (by omega) (by omega)⟩
        have en : srvNum X = srvNumD (srvDen X) X := rfl
        refine ⟨by omega, by omega, by omega, by omega, fun ho => ?_, fun ho => ⟨by omega, ⟨by omega, fun t h1 h2 => ?_⟩, ?_⟩⟩
        · exact Fin.plain ⟨by rw [decide_eq_false fun h => by have := h.2.2 ((k : Int) + 1) (by omega) hle; rw [en] at this; omega], rfl⟩
        · by_cases e : t = (k : Int) + 1
          · rw [e, en]; omega
          · exact hJ t h1 (by omega)
        · rw [show ((k + 1 : Nat) : Int) + 1 = (k : Int) + 1 + 1 by omega]
          exact Wk.pick [0, 1]
      · exact Fin.plain ⟨by rw [decide_eq_true (show srvFeas S X from ⟨hS, hX, fun t h1 h2 => hJ t h1 (by omega)⟩)], rfl⟩
theorem impl_ServersFeasible_ {S : List Task} {X : List Srv} (hs : S.length ≤ 1048576) (hx : X.length ≤ 1048576) {v u : AV} {σ : List AB} (h : Rd encTask σ v S) (h' : Rd encSrv σ u X) {K : AV → List AB → Prop} (hk : K (.b (decide (srvFeas S X))) σ) : CallWp Try.prog n_impl_ServersFeasible [v, u] σ K :=
  call_rds _ (rds_cons h.r (rds1 h'.r)) (fun c => [.sl 0 0 S.length (c 0), .sl 1 0 X.length (c 1)]) (fun c => impl_ServersFeasible0 S X hs hx (c 0) (c 1)) (fun ν c h => ⟨h.1, h.2.1, trivial⟩) (fun _ => rfl) rfl hk
end Go.Proofs.Ytnlciginmeebhaa
