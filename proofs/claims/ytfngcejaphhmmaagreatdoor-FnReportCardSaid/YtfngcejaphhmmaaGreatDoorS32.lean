import Derived.Test.YtfngcejaphhmmaaGreatDoorS19
import Derived.Test.YtfngcejaphhmmaaGreatDoorMY
namespace Go.Proofs.YtfngcejaphhmmaaGreatDoor
open Go.Abs Go.Ds
set_option linter.unusedSimpArgs false
set_option linter.unusedVariables false
set_option maxRecDepth 20000
set_option maxHeartbeats 1000000
theorem impl_reduced_ {a b : Nat} (ha : a ≤ 1000000000) (hb : 1 ≤ b ∧ b ≤ 1000000000) {σ : List AB} {K : AV → List AB → Prop} (hk : K (.agg [.i .i64 ((a / Nat.gcd a b : Nat) : Int), .i .i64 ((b / Nat.gcd a b : Nat) : Int)]) σ) : CallWp Tryz.prog n_impl_reduced [.i .i64 a, .i .i64 b] σ K := by
  refine call0 (r := .agg [.i .i64 ((a / Nat.gcd a b : Nat) : Int), .i .i64 ((b / Nat.gcd a b : Nat) : Int)]) ?_ rfl rfl hk
  have hg : 0 < Nat.gcd a b := Nat.gcd_pos_of_pos_right _ (by omega)
  have hq1 : a / Nat.gcd a b ≤ a := Nat.div_le_self _ _
  have hq2 : b / Nat.gcd a b ≤ b := Nat.div_le_self _ _
  refine call_impl_reduced (by simp) ?_
  simp only [c_impl_reduced, not_true_eq_false, not_false_eq_true, decide_true, decide_false, Bool.not_true, Bool.not_false, false_implies, true_implies, and_true, true_and, Bool.false_eq_true, Bool.true_eq_false, implies_true, Bool.not_not, Classical.not_not, go_sem, Int.reduceToNat, List.take_nil, Nat.zero_mul, Nat.reduceEqDiff, Nat.reduceAdd, Nat.reduceLT, Nat.reduceLeDiff, Nat.reduceMul, ↓reduceIte, reduceCtorEq]
  refine impl_gcd_ (by omega) (by omega) ?_
  have e1 : ((a : Nat) : Int).tdiv ((Nat.gcd a b : Nat) : Int) = ((a / Nat.gcd a b : Nat) : Int) := rfl
  have e2 : ((b : Nat) : Int).tdiv ((Nat.gcd a b : Nat) : Int) = ((b / Nat.gcd a b : Nat) : Int) := rfl
  simp only [e1, e2, not_true_eq_false, not_false_eq_true, decide_true, decide_false, Bool.not_true, Bool.not_false, false_implies, true_implies, and_true, true_and, Bool.false_eq_true, Bool.true_eq_false, implies_true, Bool.not_not, Classical.not_not, go_sem, Int.reduceToNat, List.take_nil, Nat.zero_mul, Nat.reduceEqDiff, Nat.reduceAdd, Nat.reduceLT, Nat.reduceLeDiff, Nat.reduceMul, ↓reduceIte, reduceCtorEq]
  generalize a / Nat.gcd a b = q1 at *
  generalize b / Nat.gcd a b = q2 at *
  refine ⟨by omega, by omega, by omega, by omega, ?_⟩
  exact Fin.pick [] (.agg [.i .i64 (q1 : Int), .i .i64 (q2 : Int)]) [] ⟨rfl, rfl⟩
theorem load_bound {S : List Task} (hS : setOk S) {H : Nat} (hH : H ≤ 27720) : ∀ k, k ≤ S.length → 0 ≤ loadN S H k ∧ loadN S H k ≤ 27720 * 8 * (k : Int) := by
  intro k
  induction k with
  | zero => intro _; simp [loadN, sumI]
  | succ k ih =>
    intro hk
    obtain ⟨h1, h2⟩ := ih (by omega)
    have e : loadN S H (k + 1) = loadN S H k + (H : Int) / (gT S k).P * (gT S k).C := rfl
    have e2 : gT S k = S[k] := by simp [gT, List.getD_eq_getElem?_getD, show k < S.length by omega]
    have ho := hS.2 _ (List.getElem_mem (show k < S.length by omega))
    unfold Task.ok at ho
    rw [e, e2]
    have hq0 : 0 ≤ (H : Int) / S[k].P := Int.ediv_nonneg (by omega) (by omega)
    have hq1 : (H : Int) / S[k].P ≤ H := Int.ediv_le_self _ (by omega)
    generalize (H : Int) / S[k].P = q at *
    have h3 : 0 ≤ q * S[k].C := Int.mul_nonneg hq0 (by omega)
    have h4 : q * S[k].C ≤ 27720 * 8 := Int.mul_le_mul (by omega) (by omega) (by omega) (by omega)
    omega
theorem impl_load0 (S : List Task) (hS : setOk S) (c : Nat) : CallWp Tryz.prog n_impl_load [.sl 0 0 S.length c] [.ro (encTask.row S)] (fun x σ => x = .i .i64 (loadN S (hyperN S : Nat) S.length) ∧ σ = [.ro (encTask.row S)]) := by
  have h5 := hS.1
  have hH := hyperN_pos hS
  refine call_impl_load (by simp) ?_
  simp only [c_impl_load, go_sem, Int.reduceToNat, List.take_nil, Nat.zero_mul, Nat.reduceEqDiff, Nat.reduceAdd, Nat.reduceLT, Nat.reduceLeDiff, Nat.reduceMul, ↓reduceIte, reduceCtorEq]
  refine impl_hyper_ hS (Rd.own rfl) ?_
  simp only [not_true_eq_false, not_false_eq_true, decide_true, decide_false, Bool.not_true, Bool.not_false, false_implies, true_implies, and_true, true_and, Bool.false_eq_true, Bool.true_eq_false, implies_true, Bool.not_not, Classical.not_not, go_sem, Int.reduceToNat, List.take_nil, Nat.zero_mul, Nat.reduceEqDiff, Nat.reduceAdd, Nat.reduceLT, Nat.reduceLeDiff, Nat.reduceMul, ↓reduceIte, reduceCtorEq]
  refine loop_count S.length (fun k => ⟨[(3, .i .i64 (hyperN S : Nat)), (4, .i .i64 (loadN S (hyperN S : Nat) k)), (9, .sl 0 0 S.length c), (10, .i .i64 S.length), (11, .i .i64 k)], [.ro (encTask.row S)]⟩) (fun _ => True) trivial (by show Wk 1 26 _ ⟨[(3, .i .i64 (hyperN S : Nat)), (4, .i .i64 0), (9, .sl 0 0 S.length c), (10, .i .i64 S.length), (11, .i .i64 0)], [.ro (encTask.row S)]⟩; exact Wk.pick [0]) fun k hk _ => ?_
  simp only [l0_impl_load, not_true_eq_false, not_false_eq_true, decide_true, decide_false, Bool.not_true, Bool.not_false, false_implies, true_implies, and_true, true_and, Bool.false_eq_true, Bool.true_eq_false, implies_true, Bool.not_not, Classical.not_not, go_sem, Int.reduceToNat, List.take_nil, Nat.zero_mul, Nat.reduceEqDiff, Nat.reduceAdd, Nat.reduceLT, Nat.reduceLeDiff, Nat.reduceMul, ↓reduceIte, reduceCtorEq]
  refine ⟨fun hlt => ?_, fun hge => ?_⟩
  · have ho := hS.2 _ (List.getElem_mem hlt)
    unfold Task.ok at ho
    have hb := load_bound hS hH.2 k (by omega)
    have hb2 := load_bound hS hH.2 (k + 1) (by omega)
    have e : loadN S (hyperN S : Nat) (k + 1) = loadN S (hyperN S : Nat) k + ((hyperN S : Nat) : Int) / S[k].P * S[k].C := by
      have e2 : gT S k = S[k] := by simp [gT, List.getD_eq_getElem?_getD, hlt]
      rw [← e2]; rfl
    have encf : encTask.f S[k] = [.i .i64 S[k].C, .i .i64 S[k].D, .i .i64 S[k].P] := rfl
    have hq0 : 0 ≤ ((hyperN S : Nat) : Int) / S[k].P := Int.ediv_nonneg (by omega) (by omega)
    have hq1 : ((hyperN S : Nat) : Int) / S[k].P ≤ (hyperN S : Nat) := Int.ediv_le_self _ (by omega)
    simp only [winT hlt, encf, lenT, not_true_eq_false, not_false_eq_true, decide_true, decide_false, Bool.not_true, Bool.not_false, false_implies, true_implies, and_true, true_and, Bool.false_eq_true, Bool.true_eq_false, implies_true, Bool.not_not, Classical.not_not, go_sem, Int.reduceToNat, List.take_nil, Nat.zero_mul, Nat.reduceEqDiff, Nat.reduceAdd, Nat.reduceLT, Nat.reduceLeDiff, Nat.reduceMul, ↓reduceIte, reduceCtorEq]
    rw [Int.tdiv_eq_ediv_of_nonneg (show (0 : Int) ≤ (hyperN S : Nat) by omega)]
    rw [e] at hb2 ⊢
    generalize ((hyperN S : Nat) : Int) / S[k].P = q at *
    have h3 : 0 ≤ q * S[k].C := Int.mul_nonneg hq0 (by omega)
    generalize q * S[k].C = w at *
    repeat' first | omega | exact Wk.pick [0] | refine ⟨?_, ?_⟩
  · have ek : k = S.length := by omega
    subst ek
    exact Fin.plain ⟨rfl, rfl⟩
theorem impl_load_ {S : List Task} (hS : setOk S) {v : AV} {σ : List AB} (h : Rd encTask σ v S) {K : AV → List AB → Prop} (hk : K (.i .i64 (loadN S (hyperN S : Nat) S.length)) σ) : CallWp Tryz.prog n_impl_load [v] σ K :=
  call_rds _ (rds1 h.r) (fun c => [.sl 0 0 S.length (c 0)]) (fun c => impl_load0 S hS (c 0)) (fun ν c h => ⟨h.1, trivial⟩) (fun _ => rfl) rfl hk
end Go.Proofs.YtfngcejaphhmmaaGreatDoor
