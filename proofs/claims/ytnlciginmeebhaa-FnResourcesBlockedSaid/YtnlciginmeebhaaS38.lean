/- Contracts: the test with critical sections. -/
import Derived.Test.YtnlciginmeebhaaS34
import Derived.Test.YtnlciginmeebhaaS19
import Derived.Test.YtnlciginmeebhaaM23
namespace Go.Proofs.Ytnlciginmeebhaa
open Go.Abs Go.Ds
set_option linter.unusedSimpArgs false
set_option linter.unusedVariables false
set_option maxRecDepth 20000
set_option maxHeartbeats 1000000

theorem impl_blocking0 (S : List Task) (X : List Sec) (hX : secsOk S X) (t : Int) (c c' : Nat) : CallWp Try.prog n_impl_blocking [.sl 0 0 S.length c, .sl 1 0 X.length c', .i .i64 t] [.ro (encTask.row S), .ro (encSec.row X)]
    (fun x σ => x = .i .i64 (blk S X t) ∧ σ = [.ro (encTask.row S), .ro (encSec.row X)]) := by
  have h5 := hX.1.1
  have hl := hX.2.1
  refine call_impl_blocking (by simp) ?_
  simp only [c_impl_blocking, not_true_eq_false, not_false_eq_true, decide_true, decide_false, Bool.not_true, Bool.not_false, false_implies, true_implies, and_true, true_and, Bool.false_eq_true, Bool.true_eq_false, implies_true, Bool.not_not, Classical.not_not, go_sem, Int.reduceToNat, List.take_nil, Nat.zero_mul, Nat.reduceEqDiff, Nat.reduceAdd, Nat.reduceLT, Nat.reduceLeDiff, Nat.reduceMul, ↓reduceIte, reduceCtorEq]
  refine impl_ceilings_ hX (Rd.own rfl) (Rd.own rfl) fun cap => ?_
  simp only [not_true_eq_false, not_false_eq_true, decide_true, decide_false, Bool.not_true, Bool.not_false, false_implies, true_implies, and_true, true_and, Bool.false_eq_true, Bool.true_eq_false, implies_true, Bool.not_not, Classical.not_not, go_sem, Int.reduceToNat, List.take_nil, Nat.zero_mul, Nat.reduceEqDiff, Nat.reduceAdd, Nat.reduceLT, Nat.reduceLeDiff, Nat.reduceMul, ↓reduceIte, reduceCtorEq]
  refine loop_count X.length (fun k => ⟨[(0, .sl 0 0 S.length c), (2, .i .i64 t), (7, .sl 2 0 3 cap), (8, .i .i64 (blkN S X t k)), (14, .sl 1 0 X.length c'), (15, .i .i64 X.length), (16, .i .i64 k)], [.ro (encTask.row S), .ro (encSec.row X), .rw ty_int (encInt.row [ceilR S X 0, ceilR S X 1, ceilR S X 2]) cap]⟩) (fun _ => True) trivial (by show Wk 2 48 _ ⟨[(0, .sl 0 0 S.length c), (2, .i .i64 t), (7, .sl 2 0 3 cap), (8, .i .i64 0), (14, .sl 1 0 X.length c'), (15, .i .i64 X.length), (16, .i .i64 0)], _⟩; exact Wk.pick [0, 1, 2]) fun k hk _ => ?_
  simp only [l0_impl_blocking, not_true_eq_false, not_false_eq_true, decide_true, decide_false, Bool.not_true, Bool.not_false, false_implies, true_implies, and_true, true_and, Bool.false_eq_true, Bool.true_eq_false, implies_true, Bool.not_not, Classical.not_not, go_sem, Int.reduceToNat, List.take_nil, Nat.zero_mul, Nat.reduceEqDiff, Nat.reduceAdd, Nat.reduceLT, Nat.reduceLeDiff, Nat.reduceMul, ↓reduceIte, reduceCtorEq]
  refine ⟨fun hlt => ?_, fun hge => ?_⟩
  · have hkS : k < S.length := by omega
    have gt : gT S k = S[k] := gT_nat hkS
    have gx := gX_at hlt
    have hok := hX.2.2 k hlt
    rw [gt, gx] at hok
    unfold secOk at hok
    have hrl : X[k].Rs.toNat < [ceilR S X 0, ceilR S X 1, ceilR S X 2].length := by simp; omega
    have hcr : [ceilR S X 0, ceilR S X 1, ceilR S X 2][X[k].Rs.toNat] = ceilR S X X[k].Rs := by
      rcases (show X[k].Rs = 0 ∨ X[k].Rs = 1 ∨ X[k].Rs = 2 by omega) with h | h | h <;> simp [h]
    have hsucc : blkN S X t (k + 1) = if 0 < X[k].Ln ∧ t < S[k].D ∧ ceilR S X X[k].Rs ≤ t then (if blkN S X t k < X[k].Ln then X[k].Ln else blkN S X t k) else blkN S X t k := by rw [← gx, ← gt]; rfl
    simp only [winX hlt, encXf, lenX, lenT, rdT1 hkS, rdI hrl, lenI, hcr, not_true_eq_false, not_false_eq_true, decide_true, decide_false, Bool.not_true, Bool.not_false, false_implies, true_implies, and_true, true_and, Bool.false_eq_true, Bool.true_eq_false, implies_true, Bool.not_not, Classical.not_not, go_sem, Int.reduceToNat, List.take_nil, Nat.zero_mul, Nat.reduceEqDiff, Nat.reduceAdd, Nat.reduceLT, Nat.reduceLeDiff, Nat.reduceMul, ↓reduceIte, reduceCtorEq]
    refine ⟨hlt, by omega, fun h1 => ⟨hkS, by omega, fun h2 => ⟨by omega, by simp; omega, fun h3 => ?_, fun h3 => ?_⟩, fun h2 => ?_⟩, fun h1 => ?_⟩
    · rw [if_pos ⟨h1, h2, h3⟩] at hsucc
      rw [hsucc]
      exact ⟨by omega, hlt, Wk.pick [0, 1, 2]⟩
    · rw [if_neg fun h => h3 h.2.2] at hsucc
      rw [hsucc]
      exact ⟨by omega, hlt, Wk.pick [0, 1, 2]⟩
    · rw [if_neg fun h => h2 h.2.1] at hsucc
      rw [hsucc]
      exact ⟨by omega, hlt, Wk.pick [0, 1, 2]⟩
    · rw [if_neg fun h => h1 h.1] at hsucc
      rw [hsucc]
      exact ⟨by omega, hlt, Wk.pick [0, 1, 2]⟩
  · have ek : k = X.length := by omega
    rw [ek, hl]
    exact Fin.pick [0, 1] (.i .i64 (blkN S X t S.length)) _ ⟨rfl, rfl⟩
theorem impl_blocking_ {S : List Task} {X : List Sec} (hX : secsOk S X) {t : Int} {v u : AV} {σ : List AB} (h : Rd encTask σ v S) (h' : Rd encSec σ u X) {K : AV → List AB → Prop} (hk : K (.i .i64 (blk S X t)) σ) : CallWp Try.prog n_impl_blocking [v, u, .i .i64 t] σ K :=
  call_rds _ (rds_cons h.r (rds1 h'.r)) (fun c => [.sl 0 0 S.length (c 0), .sl 1 0 X.length (c 1), .i .i64 t]) (fun c => impl_blocking0 S X hX t (c 0) (c 1)) (fun ν c h => ⟨h.1, h.2.1, .inl rfl, trivial⟩) (fun _ => rfl) rfl hk

/-- The set passes the test with its sections. -/
def resFeas (S : List Task) (X : List Sec) : Prop := secsOk S X ∧ ∀ t : Int, 1 ≤ t → t ≤ hyperN S → dbf S t + blk S X t ≤ t
noncomputable instance (S : List Task) (X : List Sec) : Decidable (resFeas S X) := Classical.propDecidable _

theorem blk_bound {S : List Task} {X : List Sec} (hX : secsOk S X) (t : Int) : 0 ≤ blk S X t ∧ blk S X t ≤ 8 := by
  refine ⟨blkN_pos S X t _, blkN_le (by omega) fun i hi => ?_⟩
  have hl := hX.2.1
  have hs := hX.2.2 i (by omega)
  have hx := gT_ok hX.1 (show (0:Int) ≤ (i:Nat) by omega) (by omega)
  unfold secOk at hs
  unfold Task.ok at hx
  omega

theorem impl_ResourcesFeasible0 (S : List Task) (X : List Sec) (hs : S.length ≤ 1048576) (hx : X.length ≤ 1048576) (c c' : Nat) : CallWp Try.prog n_impl_ResourcesFeasible [.sl 0 0 S.length c, .sl 1 0 X.length c'] [.ro (encTask.row S), .ro (encSec.row X)]
    (fun x σ => x = .b (decide (resFeas S X)) ∧ σ = [.ro (encTask.row S), .ro (encSec.row X)]) := by
  refine call_impl_ResourcesFeasible (by simp) ?_
  simp only [c_impl_ResourcesFeasible, go_sem, Int.reduceToNat, List.take_nil, Nat.zero_mul, Nat.reduceEqDiff, Nat.reduceAdd, Nat.reduceLT, Nat.reduceLeDiff, Nat.reduceMul, ↓reduceIte, reduceCtorEq]
  refine impl_SectionsValid_ (S := S) (X := X) (by omega) (by omega) (Rd.own rfl) (Rd.own rfl) ?_
  simp only [not_true_eq_false, not_false_eq_true, decide_true, decide_false, Bool.not_true, Bool.not_false, false_implies, true_implies, and_true, true_and, Bool.false_eq_true, Bool.true_eq_false, implies_true, Bool.not_not, Classical.not_not, go_sem, Int.reduceToNat, List.take_nil, Nat.zero_mul, Nat.reduceEqDiff, Nat.reduceAdd, Nat.reduceLT, Nat.reduceLeDiff, Nat.reduceMul, ↓reduceIte, reduceCtorEq]
  refine ⟨fun hX => Fin.plain ⟨by rw [decide_eq_false fun h : resFeas S X => hX h.1], rfl⟩, fun hX => ?_⟩
  · have hS := hX.1
    have h5 := hS.1
    have hH := hyperN_bound hS (Nat.le_refl S.length)
    rw [List.take_length] at hH
    refine loop_count (hyperN S) (fun k => ⟨[(0, .sl 0 0 S.length c), (1, .sl 1 0 X.length c'), (5, .i .i64 ((k : Int) + 1))], [.ro (encTask.row S), .ro (encSec.row X)]⟩) (fun k => ∀ t : Int, 1 ≤ t → t < (k : Int) + 1 → dbf S t + blk S X t ≤ t) (fun t h1 h2 => by omega) (Wk.pick [0, 1]) fun k hk hJ => ?_
    simp only [l0_impl_ResourcesFeasible, not_true_eq_false, not_false_eq_true, decide_true, decide_false, Bool.not_true, Bool.not_false, false_implies, true_implies, and_true, true_and, Bool.false_eq_true, Bool.true_eq_false, implies_true, Bool.not_not, Classical.not_not, go_sem, Int.reduceToNat, List.take_nil, Nat.zero_mul, Nat.reduceEqDiff, Nat.reduceAdd, Nat.reduceLT, Nat.reduceLeDiff, Nat.reduceMul, ↓reduceIte, reduceCtorEq]
    refine impl_hyper_ hS (Rd.own rfl) ?_
    simp only [not_true_eq_false, not_false_eq_true, decide_true, decide_false, Bool.not_true, Bool.not_false, false_implies, true_implies, and_true, true_and, Bool.false_eq_true, Bool.true_eq_false, implies_true, Bool.not_not, Classical.not_not, go_sem, Int.reduceToNat, List.take_nil, Nat.zero_mul, Nat.reduceEqDiff, Nat.reduceAdd, Nat.reduceLT, Nat.reduceLeDiff, Nat.reduceMul, ↓reduceIte, reduceCtorEq]
    refine ⟨fun hle => impl_demand_ hS (by omega) (Rd.own rfl) ?_, fun hgt => ?_⟩
    · simp only [not_true_eq_false, not_false_eq_true, decide_true, decide_false, Bool.not_true, Bool.not_false, false_implies, true_implies, and_true, true_and, Bool.false_eq_true, Bool.true_eq_false, implies_true, Bool.not_not, Classical.not_not, go_sem, Int.reduceToNat, List.take_nil, Nat.zero_mul, Nat.reduceEqDiff, Nat.reduceAdd, Nat.reduceLT, Nat.reduceLeDiff, Nat.reduceMul, ↓reduceIte, reduceCtorEq]
      refine impl_blocking_ hX (Rd.own rfl) (Rd.own rfl) ?_
      have hb := blk_bound hX ((k : Int) + 1)
      have hd := dbfN_bound hS (show (0 : Int) ≤ (k : Int) + 1 by omega) S.length (Nat.le_refl _)
      rw [← dbf_all] at hd
      have hd3 : ((k : Int) + 1 + 1) * 8 * (S.length : Int) ≤ 8000008 * 5 := Int.mul_le_mul (by omega) (by omega) (by omega) (by omega)
      simp only [not_true_eq_false, not_false_eq_true, decide_true, decide_false, Bool.not_true, Bool.not_false, false_implies, true_implies, and_true, true_and, Bool.false_eq_true, Bool.true_eq_false, implies_true, Bool.not_not, Classical.not_not, go_sem, Int.reduceToNat, List.take_nil, Nat.zero_mul, Nat.reduceEqDiff, Nat.reduceAdd, Nat.reduceLT, Nat.reduceLeDiff, Nat.reduceMul, ↓reduceIte, reduceCtorEq]
      refine ⟨by omega, fun ho => ?_, fun ho => ⟨by omega, ⟨by omega, fun t h1 h2 => ?_⟩, ?_⟩⟩
      · exact Fin.plain ⟨by rw [decide_eq_false fun h : resFeas S X => by have := h.2 ((k : Int) + 1) (by omega) (by omega); omega], rfl⟩
      · by_cases e : t = (k : Int) + 1
        · rw [e]; omega
        · exact hJ t h1 (by omega)
      · rw [show ((k + 1 : Nat) : Int) + 1 = (k : Int) + 1 + 1 by omega]
        exact Wk.pick [0, 1]
    · exact Fin.plain ⟨by rw [decide_eq_true (show resFeas S X from ⟨hX, fun t h1 h2 => hJ t h1 (by omega)⟩)], rfl⟩
theorem impl_ResourcesFeasible_ {S : List Task} {X : List Sec} (hs : S.length ≤ 1048576) (hx : X.length ≤ 1048576) {v u : AV} {σ : List AB} (h : Rd encTask σ v S) (h' : Rd encSec σ u X) {K : AV → List AB → Prop} (hk : K (.b (decide (resFeas S X))) σ) : CallWp Try.prog n_impl_ResourcesFeasible [v, u] σ K :=
  call_rds _ (rds_cons h.r (rds1 h'.r)) (fun c => [.sl 0 0 S.length (c 0), .sl 1 0 X.length (c 1)]) (fun c => impl_ResourcesFeasible0 S X hs hx (c 0) (c 1)) (fun ν c h => ⟨h.1, h.2.1, trivial⟩) (fun _ => rfl) rfl hk
end Go.Proofs.Ytnlciginmeebhaa
