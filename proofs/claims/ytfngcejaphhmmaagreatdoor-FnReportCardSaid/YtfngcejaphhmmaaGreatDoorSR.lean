import Derived.Test.YtfngcejaphhmmaaGreatDoorS32
import Derived.Test.YtfngcejaphhmmaaGreatDoorS23
import Derived.Test.YtfngcejaphhmmaaGreatDoorSU
import Derived.Test.YtfngcejaphhmmaaGreatDoorMT
import Derived.Test.YtfngcejaphhmmaaGreatDoorS22
import Derived.Test.YtfngcejaphhmmaaGreatDoorS31
import Derived.Test.YtfngcejaphhmmaaGreatDoorS95
import Derived.Test.YtfngcejaphhmmaaGreatDoorD1
import Derived.Test.YtfngcejaphhmmaaGreatDoorS19
import Derived.Test.YtfngcejaphhmmaaGreatDoorS30
import Derived.Test.YtfngcejaphhmmaaGreatDoorE8
namespace Go.Proofs.YtfngcejaphhmmaaGreatDoor
open Go.Abs Go.Ds
set_option linter.unusedSimpArgs false
set_option linter.unusedVariables false
set_option maxRecDepth 20000
set_option maxHeartbeats 1000000
def utN (S : List Task) : Nat := (loadN S (hyperN S : Nat) S.length).toNat
def utA (S : List Task) : Nat := utN S / Nat.gcd (utN S) (hyperN S)
def utB (S : List Task) : Nat := hyperN S / Nat.gcd (utN S) (hyperN S)
def utAV (S : List Task) : AV := .agg [.i .i64 (utA S : Nat), .i .i64 (utB S : Nat)]
theorem utN_eq {S : List Task} (hS : setOk S) : loadN S (hyperN S : Nat) S.length = (utN S : Nat) ∧ utN S ≤ 1108800 := by
  have h5 := hS.1
  have hb := load_bound hS (hyperN_pos hS).2 S.length (Nat.le_refl _)
  unfold utN; omega
theorem ut_le {S : List Task} (hS : setOk S) : utA S ≤ 1108800 ∧ utB S ≤ 27720 := by
  have h1 := (utN_eq hS).2
  have h2 := (hyperN_pos hS).2
  have h3 : utA S ≤ utN S := Nat.div_le_self _ _
  have h4 : utB S ≤ hyperN S := Nat.div_le_self _ _
  omega
theorem impl_UtilX0 (S : List Task) (hS : setOk S) (c : Nat) : CallWp Tryz.prog n_impl_Utilization [.sl 0 0 S.length c] [.ro (encTask.row S)] (fun x σ' => ∃ τ, σ' = [.ro (encTask.row S)] ++ τ ∧ τ = [] ∧ x = utAV S) := by
  have h5 := hS.1
  have hH := hyperN_pos hS
  obtain ⟨hL, hb⟩ := utN_eq hS
  refine call_impl_Utilization (by simp) ?_
  simp only [c_impl_Utilization, go_sem, Int.reduceToNat, List.take_nil, Nat.zero_mul, Nat.reduceEqDiff, Nat.reduceAdd, Nat.reduceLT, Nat.reduceLeDiff, Nat.reduceMul, ↓reduceIte, reduceCtorEq]
  refine impl_SetValid_ (L := S) (by omega) (Rd.own rfl) ?_
  simp only [hS, not_true_eq_false, not_false_eq_true, decide_true, decide_false, Bool.not_true, Bool.not_false, false_implies, true_implies, and_true, true_and, Bool.false_eq_true, Bool.true_eq_false, implies_true, Bool.not_not, Classical.not_not, go_sem, Int.reduceToNat, List.take_nil, Nat.zero_mul, Nat.reduceEqDiff, Nat.reduceAdd, Nat.reduceLT, Nat.reduceLeDiff, Nat.reduceMul, ↓reduceIte, reduceCtorEq]
  refine impl_load_ hS (Rd.own rfl) ?_
  simp only [not_true_eq_false, not_false_eq_true, decide_true, decide_false, Bool.not_true, Bool.not_false, false_implies, true_implies, and_true, true_and, Bool.false_eq_true, Bool.true_eq_false, implies_true, Bool.not_not, Classical.not_not, go_sem, Int.reduceToNat, List.take_nil, Nat.zero_mul, Nat.reduceEqDiff, Nat.reduceAdd, Nat.reduceLT, Nat.reduceLeDiff, Nat.reduceMul, ↓reduceIte, reduceCtorEq]
  refine impl_hyper_ hS (Rd.own rfl) ?_
  rw [hL]
  simp only [not_true_eq_false, not_false_eq_true, decide_true, decide_false, Bool.not_true, Bool.not_false, false_implies, true_implies, and_true, true_and, Bool.false_eq_true, Bool.true_eq_false, implies_true, Bool.not_not, Classical.not_not, go_sem, Int.reduceToNat, List.take_nil, Nat.zero_mul, Nat.reduceEqDiff, Nat.reduceAdd, Nat.reduceLT, Nat.reduceLeDiff, Nat.reduceMul, ↓reduceIte, reduceCtorEq]
  refine impl_reduced_ (by omega) (by omega) ?_
  rw [show utN S / Nat.gcd (utN S) (hyperN S) = utA S from rfl, show hyperN S / Nat.gcd (utN S) (hyperN S) = utB S from rfl]
  simp only [not_true_eq_false, not_false_eq_true, decide_true, decide_false, Bool.not_true, Bool.not_false, false_implies, true_implies, and_true, true_and, Bool.false_eq_true, Bool.true_eq_false, implies_true, Bool.not_not, Classical.not_not, go_sem, Int.reduceToNat, List.take_nil, Nat.zero_mul, Nat.reduceEqDiff, Nat.reduceAdd, Nat.reduceLT, Nat.reduceLeDiff, Nat.reduceMul, ↓reduceIte, reduceCtorEq]
  exact Fin.pick [0] (.agg [.i .i64 (utA S : Nat), .i .i64 (utB S : Nat)]) [.ro (encTask.row S)] ⟨_, rfl, rfl, rfl⟩
theorem impl_UtilX_ {S : List Task} (hS : setOk S) {v : AV} {σ : List AB} (h : Rd encTask σ v S) {K : AV → List AB → Prop} (hk : K (utAV S) σ) : CallWp Tryz.prog n_impl_Utilization [v] σ K := by
  refine call_news _ (rds1 h.r) (fun c => [.sl 0 0 S.length (c 0)]) (fun x τ => τ = [] ∧ x = utAV S) (fun c => impl_UtilX0 S hS (c 0)) ?_ (fun ν c h => ⟨h.1, trivial⟩) (fun _ => rfl) ?_
  · rintro x τ ⟨rfl, rfl⟩; exact ⟨rfl, rfl⟩
  · rintro x τ ⟨rfl, rfl⟩
    rw [List.append_nil]; exact hk
theorem spec_UtilX0 (S : List Task) (hS : setOk S) (c : Nat) : CallWp Tryz.prog n_spec_Utilization [.sl 0 0 S.length c] [.ro (encTask.row S)] (fun x σ' => ∃ τ, σ' = [.ro (encTask.row S)] ++ τ ∧ τ = [] ∧ x = utAV S) := by
  have h5 := hS.1
  have hH := hyperN_pos hS
  obtain ⟨hL, hb⟩ := utN_eq hS
  refine call_spec_Utilization (by simp) ?_
  simp only [c_spec_Utilization, go_sem, Int.reduceToNat, List.take_nil, Nat.zero_mul, Nat.reduceEqDiff, Nat.reduceAdd, Nat.reduceLT, Nat.reduceLeDiff, Nat.reduceMul, ↓reduceIte, reduceCtorEq]
  refine spec_SetValid_ (L := S) (by omega) (Rd.own rfl) ?_
  simp only [hS, not_true_eq_false, not_false_eq_true, decide_true, decide_false, Bool.not_true, Bool.not_false, false_implies, true_implies, and_true, true_and, Bool.false_eq_true, Bool.true_eq_false, implies_true, Bool.not_not, Classical.not_not, go_sem, Int.reduceToNat, List.take_nil, Nat.zero_mul, Nat.reduceEqDiff, Nat.reduceAdd, Nat.reduceLT, Nat.reduceLeDiff, Nat.reduceMul, ↓reduceIte, reduceCtorEq]
  refine spec_l1Hyper_ hS (Rd.own rfl) ?_
  simp only [not_true_eq_false, not_false_eq_true, decide_true, decide_false, Bool.not_true, Bool.not_false, false_implies, true_implies, and_true, true_and, Bool.false_eq_true, Bool.true_eq_false, implies_true, Bool.not_not, Classical.not_not, go_sem, Int.reduceToNat, List.take_nil, Nat.zero_mul, Nat.reduceEqDiff, Nat.reduceAdd, Nat.reduceLT, Nat.reduceLeDiff, Nat.reduceMul, ↓reduceIte, reduceCtorEq]
  refine loop_count S.length (fun k => ⟨[(0, .sl 0 0 S.length c), (2, .p 1 0), (3, .i .i64 (hyperN S : Nat)), (4, .i .i64 (loadN S (hyperN S : Nat) k)), (5, .i .i64 k)], [.ro (encTask.row S), .rw ty_impl_Fraction [.i .i64 0, .i .i64 0] 2]⟩) (fun _ => True) trivial (by
    show Wk 1 44 _ ⟨[(0, .sl 0 0 S.length c), (2, .p 1 0), (3, .i .i64 (hyperN S : Nat)), (4, .i .i64 0), (5, .i .i64 0)], [.ro (encTask.row S), .rw ty_impl_Fraction [.i .i64 0, .i .i64 0] 2]⟩; exact Wk.pick [0, 1]) fun k hk _ => ?_
  simp only [l0_spec_Utilization, not_true_eq_false, not_false_eq_true, decide_true, decide_false, Bool.not_true, Bool.not_false, false_implies, true_implies, and_true, true_and, Bool.false_eq_true, Bool.true_eq_false, implies_true, Bool.not_not, Classical.not_not, go_sem, Int.reduceToNat, List.take_nil, Nat.zero_mul, Nat.reduceEqDiff, Nat.reduceAdd, Nat.reduceLT, Nat.reduceLeDiff, Nat.reduceMul, ↓reduceIte, reduceCtorEq]
  refine ⟨fun hlt => ?_, fun hge => ?_⟩
  · have ho := hS.2 _ (List.getElem_mem hlt)
    unfold Task.ok at ho
    have hb1 := load_bound hS hH.2 k (by omega)
    have hb2 := load_bound hS hH.2 (k + 1) (by omega)
    have e : loadN S (hyperN S : Nat) (k + 1) = loadN S (hyperN S : Nat) k + ((hyperN S : Nat) : Int) / S[k].P * S[k].C := by
      have e2 : gT S k = S[k] := by simp [gT, List.getD_eq_getElem?_getD, hlt]
      rw [← e2]; rfl
    have hq0 : 0 ≤ ((hyperN S : Nat) : Int) / S[k].P := Int.ediv_nonneg (by omega) (by omega)
    have hq1 : ((hyperN S : Nat) : Int) / S[k].P ≤ (hyperN S : Nat) := Int.ediv_le_self _ (by omega)
    simp only [rdT0 hlt, rdT2 hlt, lenT, not_true_eq_false, not_false_eq_true, decide_true, decide_false, Bool.not_true, Bool.not_false, false_implies, true_implies, and_true, true_and, Bool.false_eq_true, Bool.true_eq_false, implies_true, Bool.not_not, Classical.not_not, go_sem, Int.reduceToNat, List.take_nil, Nat.zero_mul, Nat.reduceEqDiff, Nat.reduceAdd, Nat.reduceLT, Nat.reduceLeDiff, Nat.reduceMul, ↓reduceIte, reduceCtorEq]
    rw [Int.tdiv_eq_ediv_of_nonneg (show (0 : Int) ≤ (hyperN S : Nat) by omega), Int.mul_comm S[k].C]
    rw [e] at hb2 ⊢
    generalize ((hyperN S : Nat) : Int) / S[k].P = q at *
    have h3 : 0 ≤ q * S[k].C := Int.mul_nonneg hq0 (by omega)
    generalize q * S[k].C = w at *
    repeat' first | omega | exact Wk.pick [0, 1] | refine ⟨?_, ?_⟩
  · have ek : k = S.length := by omega
    subst ek
    rw [hL]
    refine spec_l1Gcd_ (by omega) (by omega) ?_
    rw [Nat.gcd_comm]
    have hg : 0 < Nat.gcd (utN S) (hyperN S) := Nat.gcd_pos_of_pos_right _ (by omega)
    have e1 : ((utN S : Nat) : Int).tdiv ((Nat.gcd (utN S) (hyperN S) : Nat) : Int) = (utA S : Nat) := rfl
    have e2 : ((hyperN S : Nat) : Int).tdiv ((Nat.gcd (utN S) (hyperN S) : Nat) : Int) = (utB S : Nat) := rfl
    have hl := ut_le hS
    simp only [e1, e2, not_true_eq_false, not_false_eq_true, decide_true, decide_false, Bool.not_true, Bool.not_false, false_implies, true_implies, and_true, true_and, Bool.false_eq_true, Bool.true_eq_false, implies_true, Bool.not_not, Classical.not_not, go_sem, Int.reduceToNat, List.take_nil, Nat.zero_mul, Nat.reduceEqDiff, Nat.reduceAdd, Nat.reduceLT, Nat.reduceLeDiff, Nat.reduceMul, ↓reduceIte, reduceCtorEq]
    refine ⟨by omega, by omega, by omega, by omega, ?_⟩
    exact Fin.pick [0] (.agg [.i .i64 (utA S : Nat), .i .i64 (utB S : Nat)]) [.ro (encTask.row S)] ⟨_, rfl, rfl, rfl⟩
theorem spec_UtilX_ {S : List Task} (hS : setOk S) {v : AV} {σ : List AB} (h : Rd encTask σ v S) {K : AV → List AB → Prop} (hk : K (utAV S) σ) : CallWp Tryz.prog n_spec_Utilization [v] σ K := by
  refine call_news _ (rds1 h.r) (fun c => [.sl 0 0 S.length (c 0)]) (fun x τ => τ = [] ∧ x = utAV S) (fun c => spec_UtilX0 S hS (c 0)) ?_ (fun ν c h => ⟨h.1, trivial⟩) (fun _ => rfl) ?_
  · rintro x τ ⟨rfl, rfl⟩; exact ⟨rfl, rfl⟩
  · rintro x τ ⟨rfl, rfl⟩
    rw [List.append_nil]; exact hk
end Go.Proofs.YtfngcejaphhmmaaGreatDoor
/- Contracts: the words of a report: times, comparison of rows of strings. -/
namespace Go.Proofs.YtfngcejaphhmmaaGreatDoor
open Go.Abs Go.Ds
set_option linter.unusedSimpArgs false
set_option linter.unusedVariables false
set_option maxRecDepth 20000
set_option maxHeartbeats 2000000
theorem spec_l10Times0 (R : List Int) (hl : R.length ≤ 9) (hR : ∀ r ∈ R, r ≤ 1000000000) (c : Nat) : CallWp Tryz.prog n_spec_l10Times [.sl 0 0 R.length c] [.ro (encInt.row R)] (fun x σ' => x = .s (bs (timesW R)) ∧ σ' = [.ro (encInt.row R)]) := by
  refine call_spec_l10Times (by simp) ?_
  simp only [c_spec_l10Times, not_true_eq_false, not_false_eq_true, decide_true, decide_false, Bool.not_true, Bool.not_false, false_implies, true_implies, and_true, true_and, Bool.false_eq_true, Bool.true_eq_false, implies_true, Bool.not_not, Classical.not_not, go_sem, Int.reduceToNat, List.take_nil, Nat.zero_mul, Nat.reduceEqDiff, Nat.reduceAdd, Nat.reduceLT, Nat.reduceLeDiff, Nat.reduceMul, ↓reduceIte, reduceCtorEq]
  refine loop_count R.length (fun k => ⟨[(0, .sl 0 0 R.length c), (3, .s (bs (timesW (R.take k)))), (4, .i .i64 k)], [.ro (encInt.row R)]⟩) (fun _ => True) trivial (by show Wk 1 27 _ ⟨[(0, .sl 0 0 R.length c), (3, .s (bs [])), (4, .i .i64 0)], [.ro (encInt.row R)]⟩; exact Wk.pick [0]) fun k hk _ => ?_
  simp only [l0_spec_l10Times, not_true_eq_false, not_false_eq_true, decide_true, decide_false, Bool.not_true, Bool.not_false, false_implies, true_implies, and_true, true_and, Bool.false_eq_true, Bool.true_eq_false, implies_true, Bool.not_not, Classical.not_not, go_sem, Int.reduceToNat, List.take_nil, Nat.zero_mul, Nat.reduceEqDiff, Nat.reduceAdd, Nat.reduceLT, Nat.reduceLeDiff, Nat.reduceMul, ↓reduceIte, reduceCtorEq]
  have hle := timesW_le (R := R.take k) fun r hr => hR r (List.mem_of_mem_take hr)
  rw [List.length_take] at hle
  refine ⟨fun hlt => ?_, fun hge => ?_⟩
  · have h1 := hR _ (List.getElem_mem hlt)
    have e := timesW_succ hlt
    simp only [rdI hlt, lenI, not_true_eq_false, not_false_eq_true, decide_true, decide_false, Bool.not_true, Bool.not_false, false_implies, true_implies, and_true, true_and, Bool.false_eq_true, Bool.true_eq_false, implies_true, Bool.not_not, Classical.not_not, go_sem, Int.reduceToNat, List.take_nil, Nat.zero_mul, Nat.reduceEqDiff, Nat.reduceAdd, Nat.reduceLT, Nat.reduceLeDiff, Nat.reduceMul, ↓reduceIte, reduceCtorEq]
    refine ⟨hlt, hlt, fun hneg => ⟨by omega, by omega, hlt, ?_⟩, fun hpos => ⟨by omega, hlt, hlt, ?_⟩⟩
    · have e2 : timeW R[k] = [32, 108, 97, 116, 101] := by unfold timeW; rw [if_pos hneg]; rfl
      rw [e, e2]
      exact Wk.pick [0]
    · have e2 : timeW R[k] = [32] ++ decI R[k] := by unfold timeW; rw [if_neg (by omega)]; rfl
      have hd := decI_le (n := R[k]) (by omega) h1
      rw [e, e2, ← List.append_assoc]
      refine spec_l10PlainI _ (by omega) h1 ?_
      simp only [List.length_append, List.length_cons, List.length_nil, not_true_eq_false, not_false_eq_true, decide_true, decide_false, Bool.not_true, Bool.not_false, false_implies, true_implies, and_true, true_and, Bool.false_eq_true, Bool.true_eq_false, implies_true, Bool.not_not, Classical.not_not, go_sem, Int.reduceToNat, List.take_nil, Nat.zero_mul, Nat.reduceEqDiff, Nat.reduceAdd, Nat.reduceLT, Nat.reduceLeDiff, Nat.reduceMul, ↓reduceIte, reduceCtorEq]
      exact ⟨by omega, by omega, hlt, Wk.pick [0]⟩
  · have ek : k = R.length := by omega
    subst ek
    rw [List.take_length]
    exact Fin.pick [0] (.s (bs (timesW R))) [.ro (encInt.row R)] ⟨rfl, rfl⟩
theorem spec_l10Times_ {R : List Int} (hl : R.length ≤ 9) (hR : ∀ r ∈ R, r ≤ 1000000000) {v : AV} {σ : List AB} (h : Rd encInt σ v R) {K : AV → List AB → Prop} (hk : K (.s (bs (timesW R))) σ) : CallWp Tryz.prog n_spec_l10Times [v] σ K :=
  call_rds _ (rds1 h.r) (fun c => [.sl 0 0 R.length (c 0)]) (fun c => spec_l10Times0 R hl hR (c 0)) (fun ν c h => ⟨h.1, trivial⟩) (fun _ => rfl) rfl hk
end Go.Proofs.YtfngcejaphhmmaaGreatDoor
/- Contracts: the report, of the reference. -/
namespace Go.Proofs.YtfngcejaphhmmaaGreatDoor
open Go.Abs Go.Ds
set_option linter.unusedSimpArgs false
set_option linter.unusedVariables false
set_option maxRecDepth 20000
set_option maxHeartbeats 2000000
theorem laws_sameStrings0 (L M : List (List UInt8)) (hs : L.length ≤ 1099511627776) (c c' : Nat) : CallWp Tryz.prog n_laws_sameStrings [.sl 0 0 L.length c, .sl 1 0 M.length c'] [.ro (encStr.row L), .ro (encStr.row M)] (fun x σ => x = .b (decide (L = M)) ∧ σ = [.ro (encStr.row L), .ro (encStr.row M)]) := by
  refine call_laws_sameStrings (by simp) ?_
  simp only [c_laws_sameStrings, not_true_eq_false, not_false_eq_true, decide_true, decide_false, Bool.not_true, Bool.not_false, false_implies, true_implies, and_true, true_and, Bool.false_eq_true, Bool.true_eq_false, implies_true, Bool.not_not, Classical.not_not, go_sem, Int.reduceToNat, List.take_nil, Nat.zero_mul, Nat.reduceEqDiff, Nat.reduceAdd, Nat.reduceLT, Nat.reduceLeDiff, Nat.reduceMul, ↓reduceIte, reduceCtorEq]
  refine ⟨fun h => Fin.same ?_, fun hl => ?_⟩
  · congr 1; symm; apply decide_eq_false; rintro rfl; exact h rfl
  refine loop_count L.length (fun k => ⟨[(0, .sl 0 0 L.length c), (1, .sl 1 0 M.length c'), (5, .i .i64 k)], [.ro (encStr.row L), .ro (encStr.row M)]⟩) (fun k => L.take k = M.take k) (by simp) (Wk.pick [0, 1]) fun k hk hJ => ?_
  simp only [l0_laws_sameStrings, lenS, not_true_eq_false, not_false_eq_true, decide_true, decide_false, Bool.not_true, Bool.not_false, false_implies, true_implies, and_true, true_and, Bool.false_eq_true, Bool.true_eq_false, implies_true, Bool.not_not, Classical.not_not, go_sem, Int.reduceToNat, List.take_nil, Nat.zero_mul, Nat.reduceEqDiff, Nat.reduceAdd, Nat.reduceLT, Nat.reduceLeDiff, Nat.reduceMul, ↓reduceIte, reduceCtorEq]
  refine ⟨fun h => ?_, fun h => Fin.same ?_⟩
  · have h' : k < M.length := by omega
    simp only [rdS h, rdS h', bs_inj, lenS, not_true_eq_false, not_false_eq_true, decide_true, decide_false, Bool.not_true, Bool.not_false, false_implies, true_implies, and_true, true_and, Bool.false_eq_true, Bool.true_eq_false, implies_true, Bool.not_not, Classical.not_not, go_sem, Int.reduceToNat, List.take_nil, Nat.zero_mul, Nat.reduceEqDiff, Nat.reduceAdd, Nat.reduceLT, Nat.reduceLeDiff, Nat.reduceMul, ↓reduceIte, reduceCtorEq]
    refine ⟨h, h, h', h', fun h1 => Fin.same ?_, fun h1 => ⟨by omega, ⟨h, ?_⟩, Wk.pick [0, 1]⟩⟩
    · congr 1; symm; apply decide_eq_false; rintro rfl; exact h1 rfl
    · rw [List.take_succ_eq_append_getElem h, List.take_succ_eq_append_getElem h', hJ, h1]
  · congr 1; symm; apply decide_eq_true
    rw [List.take_of_length_le (by omega), List.take_of_length_le (by omega)] at hJ
    exact hJ
theorem laws_sameStrings_ {L M : List (List UInt8)} (hs : L.length ≤ 1099511627776) {v u : AV} {σ : List AB} (h : Rd encStr σ v L) (h' : Rd encStr σ u M) {K : AV → List AB → Prop} (hk : K (.b (decide (L = M))) σ) : CallWp Tryz.prog n_laws_sameStrings [v, u] σ K :=
  call_rds _ (rds_cons h.r (rds1 h'.r)) (fun c => [.sl 0 0 L.length (c 0), .sl 1 0 M.length (c 1)]) (fun c => laws_sameStrings0 L M hs (c 0) (c 1)) (fun ν c h => ⟨h.1, h.2.1, trivial⟩) (fun _ => rfl) rfl hk
def SetR (S : List Task) (A : List (List UInt8)) : Prop := ∃ r m O, FovP S r ∧ MinP S m ∧ IsDM S O ∧ A = repW (utA S) (utB S) r (resps S (List.replicate S.length 0) O O.length) m
theorem SetR.same {S : List Task} {A B : List (List UInt8)} (h : SetR S A) (g : SetR S B) : A = B := by
  obtain ⟨r, m, O, h1, h2, h3, rfl⟩ := h
  obtain ⟨r', m', O', g1, g2, g3, rfl⟩ := g
  rw [h1.same g1, h2.same g2, h3.eq g3]
def RepV (L A : List (List UInt8)) : Prop :=
  (∃ k, ∃ h : k < L.length, (∀ i (h : i < L.length), i < k → lnOk L[i]) ∧ ¬ lnOk L[k] ∧ A = [wLine ++ decI ((k : Int) + 1)]) ∨
  ((∀ l ∈ L, lnOk l) ∧ 5 < L.length ∧ A = [wMany]) ∨ ((∀ l ∈ L, lnOk l) ∧ L.length ≤ 5 ∧ SetR (L.map tOf) A)
theorem RepV.same {L A B : List (List UInt8)} (h : RepV L A) (g : RepV L B) : A = B := by
  rcases h with ⟨k, hk, h1, h2, h3⟩ | ⟨h1, h2, h3⟩ | ⟨h1, h2, h3⟩ <;> rcases g with ⟨k', gk, g1, g2, g3⟩ | ⟨g1, g2, g3⟩ | ⟨g1, g2, g3⟩
  · have : k = k' := by
      rcases Nat.lt_trichotomy k k' with h | h | h
      · exact absurd (g1 k hk h) h2
      · exact h
      · exact absurd (h1 k' gk h) g2
    subst this
    rw [h3, g3]
  · exact absurd (g1 _ (List.getElem_mem hk)) h2
  · exact absurd (g1 _ (List.getElem_mem hk)) h2
  · exact absurd (h1 _ (List.getElem_mem gk)) g2
  · rw [h3, g3]
  · omega
  · exact absurd (h1 _ (List.getElem_mem gk)) g2
  · omega
  · exact h3.same g3
theorem resps_hi {S : List Task} {O : List Int} (hO : ordOk S O) : ∀ r ∈ resps S (List.replicate S.length 0) O O.length, r ≤ 1000000 := by
  intro r hr
  obtain ⟨i, hi, rfl⟩ := List.getElem_of_mem hr
  have hi' := hi
  rw [resps_length] at hi'
  obtain ⟨m, hm, e1, e2⟩ := resps_get (J := List.replicate S.length 0) hO (i := (i : Int)) (by omega) (by omega)
  rw [gI_nat hi] at e2
  rw [e2]
  by_cases h0 : respOf S (List.replicate S.length 0) (O.take m) i < 0
  · omega
  · have h1 := respOf_bounds (e1 ▸ inst_at (zeros_ok hO.1) hO hm) (by omega)
    have h2 := hO.1.2 _ (List.getElem_mem hi')
    unfold Task.ok at h2
    have h3 : gT S (i : Int) = S[i] := by simp [gT, List.getD_eq_getElem?_getD, hi']
    rw [h3] at h1
    omega
end Go.Proofs.YtfngcejaphhmmaaGreatDoor
/- Contracts: the report, of the reference: the walk. -/
namespace Go.Proofs.YtfngcejaphhmmaaGreatDoor
open Go.Abs Go.Ds
set_option linter.unusedSimpArgs false
set_option linter.unusedVariables false
set_option maxRecDepth 20000
set_option maxHeartbeats 4000000
noncomputable def setT (L : List (List UInt8)) (k : Nat) : List Task := (L.take k).map tOf
noncomputable def repS (L : List (List UInt8)) (c : Nat) (k cap : Nat) : St := ⟨[(0, .sl 0 0 L.length c), (3, .sl 1 0 (setT L k).length cap), (4, .i .i64 k)], [.ro (encStr.row L), .rw ty_impl_Task (encTask.row (setT L k)) (cap * 3)]⟩
def RepA (L : List (List UInt8)) (x : AV) (τ : List AB) : Prop := ∃ A ca cc, x = .sl 1 0 A.length ca ∧ τ = [.rw ty_string (encStr.row A) cc] ∧ RepV L A
theorem setT_zero (L : List (List UInt8)) : setT L 0 = [] := rfl
theorem rdLen {α : Type} {E : Enc α} {σ : List AB} {n len cap : Nat} {L : List α} (h : cellsOf σ n = some (E.row L)) (hl : L.length = len) : Rd E σ (.sl n 0 len cap) L := by subst hl; exact Rd.own h
theorem spec_Report0 (L : List (List UInt8)) (hL : L.length ≤ 9) (hl : ∀ l ∈ L, l.length ≤ 1000) (c : Nat) : CallWp Tryz.prog n_spec_Report [.sl 0 0 L.length c] [.ro (encStr.row L)] (fun x σ' => ∃ τ, σ' = [.ro (encStr.row L)] ++ τ ∧ RepA L x τ) := by
  refine call_spec_Report (by simp) ?_
  simp only [c_spec_Report, not_true_eq_false, not_false_eq_true, decide_true, decide_false, Bool.not_true, Bool.not_false, false_implies, true_implies, and_true, true_and, Bool.false_eq_true, Bool.true_eq_false, implies_true, Bool.not_not, Classical.not_not, go_sem, Int.reduceToNat, List.take_nil, Nat.zero_mul, Nat.reduceEqDiff, Nat.reduceAdd, Nat.reduceLT, Nat.reduceLeDiff, Nat.reduceMul, ↓reduceIte, reduceCtorEq]
  refine loop_intro (fun i : Nat × Nat => repS L c i.1 i.2) (fun i => i.1 ≤ L.length ∧ ∀ j (h : j < L.length), j < i.1 → lnOk L[j]) (fun i => L.length - i.1) (0, 0) ⟨Nat.zero_le _, fun j h hj => absurd hj (Nat.not_lt_zero _)⟩ (by unfold repS; rw [setT_zero]; exact Wk.pick [0, 1]) ?_
  rintro ⟨k, cap⟩ ⟨hk, hJ⟩
  simp only at hk hJ
  have hlen : (setT L k).length = k := setT_len hk
  simp only [l0_spec_Report, repS, lenS, not_true_eq_false, not_false_eq_true, decide_true, decide_false, Bool.not_true, Bool.not_false, false_implies, true_implies, and_true, true_and, Bool.false_eq_true, Bool.true_eq_false, implies_true, Bool.not_not, Classical.not_not, go_sem, Int.reduceToNat, List.take_nil, Nat.zero_mul, Nat.reduceEqDiff, Nat.reduceAdd, Nat.reduceLT, Nat.reduceLeDiff, Nat.reduceMul, ↓reduceIte, reduceCtorEq]
  refine ⟨fun hlt => ?_, fun hge => ?_⟩
  · have hlk := hl _ (List.getElem_mem hlt)
    simp only [rdS hlt, lenS, not_true_eq_false, not_false_eq_true, decide_true, decide_false, Bool.not_true, Bool.not_false, false_implies, true_implies, and_true, true_and, Bool.false_eq_true, Bool.true_eq_false, implies_true, Bool.not_not, Classical.not_not, go_sem, Int.reduceToNat, List.take_nil, Nat.zero_mul, Nat.reduceEqDiff, Nat.reduceAdd, Nat.reduceLT, Nat.reduceLeDiff, Nat.reduceMul, ↓reduceIte, reduceCtorEq]
    refine ⟨hlt, hlt, spec_ParseTask_ _ (by omega) ?_⟩
    by_cases hp : lnOk L[k]
    · obtain ⟨t, ht⟩ := hp
      have et : setT L (k + 1) = setT L k ++ [t] := by unfold setT; rw [setT_succ hlt, tOf_eq ht]
      rw [parseAV_some ht]
      simp only [tAV, not_true_eq_false, not_false_eq_true, decide_true, decide_false, Bool.not_true, Bool.not_false, false_implies, true_implies, and_true, true_and, Bool.false_eq_true, Bool.true_eq_false, implies_true, Bool.not_not, Classical.not_not, go_sem, Int.reduceToNat, List.take_nil, Nat.zero_mul, Nat.reduceEqDiff, Nat.reduceAdd, Nat.reduceLT, Nat.reduceLeDiff, Nat.reduceMul, ↓reduceIte, reduceCtorEq, lenT, rdT0, rdT1, rdT2, winT, takeT, appT, splT, splI, winI, lenI, rdI, takeI, appI]
      refine ⟨by omega, fun cap' hcap => ⟨by omega, (k + 1, cap'), ⟨⟨by simp only; omega, ?_⟩, by simp only; omega⟩, ?_⟩⟩
      · intro j h hj
        rcases Nat.lt_succ_iff_lt_or_eq.1 hj with h1 | h1
        · exact hJ j h h1
        · subst h1; exact ⟨t, ht⟩
      · simp only [et, List.length_append, List.length_cons, List.length_nil]
        exact Wk.pick [0, 4]
    · rw [parseAV_none hp]
      simp only [tAV, not_true_eq_false, not_false_eq_true, decide_true, decide_false, Bool.not_true, Bool.not_false, false_implies, true_implies, and_true, true_and, Bool.false_eq_true, Bool.true_eq_false, implies_true, Bool.not_not, Classical.not_not, go_sem, Int.reduceToNat, List.take_nil, Nat.zero_mul, Nat.reduceEqDiff, Nat.reduceAdd, Nat.reduceLT, Nat.reduceLeDiff, Nat.reduceMul, ↓reduceIte, reduceCtorEq]
      have hd := decI_le (n := (k : Int) + 1) (by omega) (by omega)
      refine ⟨by omega, spec_l10PlainI _ (by omega) (by omega) ?_⟩
      simp only [List.length_append, List.length_cons, List.length_nil, not_true_eq_false, not_false_eq_true, decide_true, decide_false, Bool.not_true, Bool.not_false, false_implies, true_implies, and_true, true_and, Bool.false_eq_true, Bool.true_eq_false, implies_true, Bool.not_not, Classical.not_not, go_sem, Int.reduceToNat, List.take_nil, Nat.zero_mul, Nat.reduceEqDiff, Nat.reduceAdd, Nat.reduceLT, Nat.reduceLeDiff, Nat.reduceMul, ↓reduceIte, reduceCtorEq]
      refine ⟨by omega, ?_⟩
      exact Fin.pick [0, 3] (.sl 1 0 [wLine ++ decI ((k : Int) + 1)].length 1) [.ro (encStr.row L), .rw ty_string (encStr.row [wLine ++ decI ((k : Int) + 1)]) 1] ⟨_, rfl, _, 1, 1, rfl, rfl, .inl ⟨k, hlt, fun i h hi => hJ i h hi, hp, rfl⟩⟩
  · have ek : k = L.length := by omega
    subst ek
    have hall : ∀ l ∈ L, lnOk l := fun l h => by
      obtain ⟨i, hi, rfl⟩ := List.getElem_of_mem h
      exact hJ i hi hi
    have eS : setT L L.length = L.map tOf := by unfold setT; rw [List.take_length]
    have e5 : (setT L L.length).length = L.length := hlen
    refine ⟨fun h5 => ?_, fun h5 => ?_⟩
    · exact Fin.pick [0, 2] (.sl 1 0 [wMany].length 1) [.ro (encStr.row L), .rw ty_string (encStr.row [wMany]) 1] ⟨_, rfl, _, 1, 1, rfl, rfl, .inr (.inl ⟨hall, by omega, rfl⟩)⟩
    have h5' : L.length ≤ 5 := by omega
    have hS : setOk (setT L L.length) := by rw [eS]; exact set_ok h5' hall
    generalize hSS : setT L L.length = S at *
    refine spec_UtilX_ hS (Rd.own rfl) ?_
    have hul := ut_le hS
    simp only [utAV, not_true_eq_false, not_false_eq_true, decide_true, decide_false, Bool.not_true, Bool.not_false, false_implies, true_implies, and_true, true_and, Bool.false_eq_true, Bool.true_eq_false, implies_true, Bool.not_not, Classical.not_not, go_sem, Int.reduceToNat, List.take_nil, Nat.zero_mul, Nat.reduceEqDiff, Nat.reduceAdd, Nat.reduceLT, Nat.reduceLeDiff, Nat.reduceMul, ↓reduceIte, reduceCtorEq]
    refine spec_l10Plain_ (utA S) (by omega) ?_
    have hd1 : (Lib.decDigits (utA S)).length ≤ 10 := dec_le 10 _ (by decide) (by omega)
    have hd2 : (Lib.decDigits (utB S)).length ≤ 10 := dec_le 10 _ (by decide) (by omega)
    simp only [List.length_append, List.length_cons, List.length_nil, not_true_eq_false, not_false_eq_true, decide_true, decide_false, Bool.not_true, Bool.not_false, false_implies, true_implies, and_true, true_and, Bool.false_eq_true, Bool.true_eq_false, implies_true, Bool.not_not, Classical.not_not, go_sem, Int.reduceToNat, List.take_nil, Nat.zero_mul, Nat.reduceEqDiff, Nat.reduceAdd, Nat.reduceLT, Nat.reduceLeDiff, Nat.reduceMul, ↓reduceIte, reduceCtorEq]
    refine ⟨by omega, by omega, spec_l10Plain_ (utB S) (by omega) ?_⟩
    simp only [List.length_append, List.length_cons, List.length_nil, not_true_eq_false, not_false_eq_true, decide_true, decide_false, Bool.not_true, Bool.not_false, false_implies, true_implies, and_true, true_and, Bool.false_eq_true, Bool.true_eq_false, implies_true, Bool.not_not, Classical.not_not, go_sem, Int.reduceToNat, List.take_nil, Nat.zero_mul, Nat.reduceEqDiff, Nat.reduceAdd, Nat.reduceLT, Nat.reduceLeDiff, Nat.reduceMul, ↓reduceIte, reduceCtorEq]
    refine ⟨by omega, spec_FirstOverload_ (S := S) (by omega) (Rd.own rfl) (fun h => absurd hS h) fun _ r hr => ?_⟩
    have eU : (117 :: 116 :: 105 :: 108 :: 105 :: 122 :: 97 :: 116 :: 105 :: 111 :: 110 :: 32 :: (Lib.decDigits (utA S) ++ [47] ++ Lib.decDigits (utB S)) : List UInt8) = utW (utA S) (utB S) := by simp [utW, wUtil]
    simp only [not_true_eq_false, not_false_eq_true, decide_true, decide_false, Bool.not_true, Bool.not_false, false_implies, true_implies, and_true, true_and, Bool.false_eq_true, Bool.true_eq_false, implies_true, Bool.not_not, Classical.not_not, go_sem, Int.reduceToNat, List.take_nil, Nat.zero_mul, Nat.reduceEqDiff, Nat.reduceAdd, Nat.reduceLT, Nat.reduceLeDiff, Nat.reduceMul, ↓reduceIte, reduceCtorEq]
    rw [eU]
    generalize hU : utW (utA S) (utB S) = U at *
    have hH := hyperN_pos hS
    have hr9 : r ≤ 27720 := by rcases hr with ⟨h1, _⟩ | ⟨_, h1, _⟩ <;> omega
    refine seq_join (fun co : Nat => ⟨[(3, .sl 1 0 S.length cap), (8, .sl 2 0 2 co)], [.ro (encStr.row L), .rw ty_impl_Task (encTask.row S) (cap * 3), .rw ty_string [.s (bs U), .s (bs (edfW r))] co]⟩) (fun _ => True) ?_ ?_
    · simp only [not_true_eq_false, not_false_eq_true, decide_true, decide_false, Bool.not_true, Bool.not_false, false_implies, true_implies, and_true, true_and, Bool.false_eq_true, Bool.true_eq_false, implies_true, Bool.not_not, Classical.not_not, go_sem, Int.reduceToNat, List.take_nil, Nat.zero_mul, Nat.reduceEqDiff, Nat.reduceAdd, Nat.reduceLT, Nat.reduceLeDiff, Nat.reduceMul, ↓reduceIte, reduceCtorEq]
      refine ⟨fun hneg cap' hcap => ?_, fun hpos => ?_⟩
      · have e : edfW r = [101, 100, 102, 32, 102, 101, 97, 115, 105, 98, 108, 101] := by unfold edfW; rw [if_pos hneg]; rfl
        simp only [e]
        exact kJ_intro cap' trivial (Wk.pick [0, 1, 5])
      · have e : edfW r = 101 :: 100 :: 102 :: 32 :: 111 :: 118 :: 101 :: 114 :: 108 :: 111 :: 97 :: 100 :: 32 :: 97 :: 116 :: 32 :: decI r := by unfold edfW; rw [if_neg hpos]; rfl
        have hd := decI_le (n := r) (by omega) (by omega)
        simp only [e]
        refine spec_l10PlainI r (by omega) (by omega) ?_
        simp only [List.length_append, List.length_cons, List.length_nil, not_true_eq_false, not_false_eq_true, decide_true, decide_false, Bool.not_true, Bool.not_false, false_implies, true_implies, and_true, true_and, Bool.false_eq_true, Bool.true_eq_false, implies_true, Bool.not_not, Classical.not_not, go_sem, Int.reduceToNat, List.take_nil, Nat.zero_mul, Nat.reduceEqDiff, Nat.reduceAdd, Nat.reduceLT, Nat.reduceLeDiff, Nat.reduceMul, ↓reduceIte, reduceCtorEq]
        refine ⟨by omega, fun cap' hcap => ?_⟩
        exact kJ_intro cap' trivial (Wk.pick [0, 1, 5])
    · rintro co _
      simp only [not_true_eq_false, not_false_eq_true, decide_true, decide_false, Bool.not_true, Bool.not_false, false_implies, true_implies, and_true, true_and, Bool.false_eq_true, Bool.true_eq_false, implies_true, Bool.not_not, Classical.not_not, go_sem, Int.reduceToNat, List.take_nil, Nat.zero_mul, Nat.reduceEqDiff, Nat.reduceAdd, Nat.reduceLT, Nat.reduceLeDiff, Nat.reduceMul, ↓reduceIte, reduceCtorEq]
      refine spec_DM_ (S := S) (by omega) (Rd.own rfl) fun O c1 c2 _ hO => ?_
      have hO := hO hS
      have hOl := hO.ord.2.1
      simp only [not_true_eq_false, not_false_eq_true, decide_true, decide_false, Bool.not_true, Bool.not_false, false_implies, true_implies, and_true, true_and, Bool.false_eq_true, Bool.true_eq_false, implies_true, Bool.not_not, Classical.not_not, go_sem, Int.reduceToNat, List.take_nil, Nat.zero_mul, Nat.reduceEqDiff, Nat.reduceAdd, Nat.reduceLT, Nat.reduceLeDiff, Nat.reduceMul, ↓reduceIte, reduceCtorEq]
      refine spec_ResponseTimes_ (S := S) (O := O) (by omega) (by omega) (Rd.own rfl) (Rd.own rfl) (fun h => absurd hO.ord h) fun _ c3 => ?_
      have hRl := resps_length S (List.replicate S.length 0) O O.length
      have hRh := resps_hi hO.ord
      generalize hRR : resps S (List.replicate S.length 0) O O.length = R at *
      have hRh : ∀ r ∈ R, r ≤ 1000000000 := fun r h => by have := hRh r h; omega
      simp only [not_true_eq_false, not_false_eq_true, decide_true, decide_false, Bool.not_true, Bool.not_false, false_implies, true_implies, and_true, true_and, Bool.false_eq_true, Bool.true_eq_false, implies_true, Bool.not_not, Classical.not_not, go_sem, Int.reduceToNat, List.take_nil, Nat.zero_mul, Nat.reduceEqDiff, Nat.reduceAdd, Nat.reduceLT, Nat.reduceLeDiff, Nat.reduceMul, ↓reduceIte, reduceCtorEq]
      refine spec_l10Times_ (R := R) (by omega) hRh (rdLen rfl hRl) ?_
      have hw := timesW_le hRh
      simp only [List.length_append, List.length_cons, List.length_nil, not_true_eq_false, not_false_eq_true, decide_true, decide_false, Bool.not_true, Bool.not_false, false_implies, true_implies, and_true, true_and, Bool.false_eq_true, Bool.true_eq_false, implies_true, Bool.not_not, Classical.not_not, go_sem, Int.reduceToNat, List.take_nil, Nat.zero_mul, Nat.reduceEqDiff, Nat.reduceAdd, Nat.reduceLT, Nat.reduceLeDiff, Nat.reduceMul, ↓reduceIte, reduceCtorEq]
      refine ⟨by omega, fun c4 hc4 => spec_MinCores_ (S := S) (by omega) (Rd.own rfl) fun m hm => ?_⟩
      have hm9 : 0 ≤ m ∧ m ≤ 5 := by rcases hm with ⟨_, h1⟩ | ⟨_, h1, _⟩ <;> omega
      have hd := decI_le (n := m) (by omega) (by omega)
      simp only [not_true_eq_false, not_false_eq_true, decide_true, decide_false, Bool.not_true, Bool.not_false, false_implies, true_implies, and_true, true_and, Bool.false_eq_true, Bool.true_eq_false, implies_true, Bool.not_not, Classical.not_not, go_sem, Int.reduceToNat, List.take_nil, Nat.zero_mul, Nat.reduceEqDiff, Nat.reduceAdd, Nat.reduceLT, Nat.reduceLeDiff, Nat.reduceMul, ↓reduceIte, reduceCtorEq]
      refine spec_l10PlainI m (by omega) (by omega) ?_
      simp only [List.length_append, List.length_cons, List.length_nil, not_true_eq_false, not_false_eq_true, decide_true, decide_false, Bool.not_true, Bool.not_false, false_implies, true_implies, and_true, true_and, Bool.false_eq_true, Bool.true_eq_false, implies_true, Bool.not_not, Classical.not_not, go_sem, Int.reduceToNat, List.take_nil, Nat.zero_mul, Nat.reduceEqDiff, Nat.reduceAdd, Nat.reduceLT, Nat.reduceLeDiff, Nat.reduceMul, ↓reduceIte, reduceCtorEq]
      refine ⟨by omega, by simp, fun c5 hc5 => ?_⟩
      have hA : RepV L [U, edfW r, wResp ++ timesW R, wCores ++ decI m] := .inr (.inr ⟨hall, h5', r, m, O, by rw [← eS]; exact hr, by rw [← eS]; exact hm, by rw [← eS]; exact hO, by rw [← eS, hRR]; rw [repW, hU]⟩)
      exact Fin.pick [0, 8] (.sl 1 0 [U, edfW r, wResp ++ timesW R, wCores ++ decI m].length c5) [.ro (encStr.row L), .rw ty_string (encStr.row [U, edfW r, wResp ++ timesW R, wCores ++ decI m]) c5] ⟨_, rfl, _, c5, c5, rfl, rfl, hA⟩
theorem RepA.fr {L : List (List UInt8)} {x : AV} {τ : List AB} (h : RepA L x τ) : τ.all plainRw = true ∧ freshA 1 x = true := by
  obtain ⟨A, ca, cc, rfl, rfl, _⟩ := h
  exact ⟨by simp [plainRw, encStr.row_flat], rfl⟩
theorem spec_Report_ {L : List (List UInt8)} (hL : L.length ≤ 9) (hl : ∀ l ∈ L, l.length ≤ 1000) {v : AV} {σ : List AB} (h : Rd encStr σ v L) {K : AV → List AB → Prop}
    (hk : ∀ A ca cc, RepV L A → K (.sl σ.length 0 A.length ca) (σ ++ [.rw ty_string (encStr.row A) cc])) : CallWp Tryz.prog n_spec_Report [v] σ K := by
  refine call_news _ (rds1 h.r) (fun c => [.sl 0 0 L.length (c 0)]) (RepA L) (fun c => spec_Report0 L hL hl (c 0)) (fun x τ h => h.fr) (fun ν c h => ⟨h.1, trivial⟩) (fun _ => rfl) ?_
  rintro x τ ⟨A, ca, cc, rfl, rfl, hA⟩
  exact hk A ca cc hA
end Go.Proofs.YtfngcejaphhmmaaGreatDoor
/- Contracts: the report, of the program. -/
namespace Go.Proofs.YtfngcejaphhmmaaGreatDoor
open Go.Abs Go.Ds
set_option linter.unusedSimpArgs false
set_option linter.unusedVariables false
set_option maxRecDepth 20000
set_option maxHeartbeats 4000000
def tabV : Value := .agg (Lib.pow10Tab.map fun z => Value.int .u64 z).toArray
theorem itoaT_ (n : Int) (h0 : 0 ≤ n) (h1 : n ≤ 1000000000) {σ : List AB} {g : Nat} (hg : σ[g]? = some (.gl (laysM171_ren.g 17) tabV)) {K : AV → List AB → Prop} (hk : K (.s (bs (decI n))) σ) : CallWp Tryz.prog n_strconv_Itoa [.i .i64 n] σ K :=
  strconv_ItoaG_ n h0 (by omega) hg hk
section
variable (C : List Nat) (ev : Value) (L : List (List UInt8)) (cc ca : Nat)
noncomputable def repI : Option (Nat × Nat) → St
  | none => ⟨[(3, .sn), (15, .sl 3 0 L.length ca), (16, .i .i64 L.length), (17, .i .i64 0)], [.ro (encByte.row C), .gl (laysC172_ren.g 15) ev, .gl (laysM171_ren.g 17) tabV, .rw ty_string (encStr.row L) cc]⟩
  | some (k, cap) => ⟨[(3, .sl 4 0 (setT L k).length cap), (15, .sl 3 0 L.length ca), (16, .i .i64 L.length), (17, .i .i64 k)], [.ro (encByte.row C), .gl (laysC172_ren.g 15) ev, .gl (laysM171_ren.g 17) tabV, .rw ty_string (encStr.row L) cc, .rw ty_impl_Task (encTask.row (setT L k)) (cap * 3)]⟩
def RepB (x : AV) (σ' : List AB) : Prop := ∃ A c c', x = .sl 4 0 A.length c ∧ σ' = [.ro (encByte.row C), .gl (laysC172_ren.g 15) ev, .gl (laysM171_ren.g 17) tabV, .rw ty_string (encStr.row L) cc, .rw ty_string (encStr.row A) c'] ∧ RepV L A
theorem impl_Report0 (hev : ev = .nilIface ∨ ∃ te pe, ev = .iface te pe) (hL : L.length ≤ 9) (hl : ∀ l ∈ L, l.length ≤ 1000) : CallWp Tryz.prog n_impl_Report [.sl 3 0 L.length ca] [.ro (encByte.row C), .gl (laysC172_ren.g 15) ev, .gl (laysM171_ren.g 17) tabV, .rw ty_string (encStr.row L) cc] (RepB C ev L cc) := by
  refine call_impl_Report (by simp) ?_
  simp only [c_impl_Report, not_true_eq_false, not_false_eq_true, decide_true, decide_false, Bool.not_true, Bool.not_false, false_implies, true_implies, and_true, true_and, Bool.false_eq_true, Bool.true_eq_false, implies_true, Bool.not_not, Classical.not_not, go_sem, Int.reduceToNat, List.take_nil, Nat.zero_mul, Nat.reduceEqDiff, Nat.reduceAdd, Nat.reduceLT, Nat.reduceLeDiff, Nat.reduceMul, ↓reduceIte, reduceCtorEq]
  refine loop_intro (repI C ev L cc ca) (fun i => match i with | none => True | some (k, _) => 1 ≤ k ∧ k ≤ L.length ∧ ∀ j (h : j < L.length), j < k → lnOk L[j]) (fun i => match i with | none => L.length | some (k, _) => L.length - k) none trivial (Wk.pick [0, 1, 2, 3]) ?_
  rintro (_ | ⟨k, cap⟩) hJ
  · simp only [l1_impl_Report, repI, lenS, not_true_eq_false, not_false_eq_true, decide_true, decide_false, Bool.not_true, Bool.not_false, false_implies, true_implies, and_true, true_and, Bool.false_eq_true, Bool.true_eq_false, implies_true, Bool.not_not, Classical.not_not, go_sem, Int.reduceToNat, List.take_nil, Nat.zero_mul, Nat.reduceEqDiff, Nat.reduceAdd, Nat.reduceLT, Nat.reduceLeDiff, Nat.reduceMul, ↓reduceIte, reduceCtorEq]
    refine ⟨fun hlt => ?_, fun hge => ?_⟩
    · have hlt' : 0 < L.length := by omega
      have hlk := hl _ (List.getElem_mem hlt')
      simp only [rdS hlt', lenS, not_true_eq_false, not_false_eq_true, decide_true, decide_false, Bool.not_true, Bool.not_false, false_implies, true_implies, and_true, true_and, Bool.false_eq_true, Bool.true_eq_false, implies_true, Bool.not_not, Classical.not_not, go_sem, Int.reduceToNat, List.take_nil, Nat.zero_mul, Nat.reduceEqDiff, Nat.reduceAdd, Nat.reduceLT, Nat.reduceLeDiff, Nat.reduceMul, ↓reduceIte, reduceCtorEq]
      refine ⟨by omega, hlt', impl_ParseTask_ (g := 1) (by omega) rfl hev ?_⟩
      by_cases hp : lnOk L[0]
      · obtain ⟨t, ht⟩ := hp
        have et : setT L (0 + 1) = [t] := by unfold setT; rw [setT_succ hlt', tOf_eq ht]; rfl
        rw [parseAV_some ht]
        simp only [tAV, not_true_eq_false, not_false_eq_true, decide_true, decide_false, Bool.not_true, Bool.not_false, false_implies, true_implies, and_true, true_and, Bool.false_eq_true, Bool.true_eq_false, implies_true, Bool.not_not, Classical.not_not, go_sem, Int.reduceToNat, List.take_nil, Nat.zero_mul, Nat.reduceEqDiff, Nat.reduceAdd, Nat.reduceLT, Nat.reduceLeDiff, Nat.reduceMul, ↓reduceIte, reduceCtorEq, lenT, rdT0, rdT1, rdT2, winT, takeT, appT, splT, splI, winI, lenI, rdI, takeI, appI]
        refine fun cap' hcap => ⟨by omega, some (0 + 1, cap'), ⟨⟨by omega, by omega, ?_⟩, by show L.length - (0 + 1) < L.length; omega⟩, ?_⟩
        · intro j h hj
          rcases Nat.lt_succ_iff_lt_or_eq.1 hj with h1 | h1
          · exact absurd h1 (Nat.not_lt_zero _)
          · subst h1; exact ⟨t, ht⟩
        · simp only [et, List.length_append, List.length_cons, List.length_nil]
          exact Wk.pick [0, 1, 2, 3, 6]
      · rw [parseAV_none hp]
        simp only [tAV, not_true_eq_false, not_false_eq_true, decide_true, decide_false, Bool.not_true, Bool.not_false, false_implies, true_implies, and_true, true_and, Bool.false_eq_true, Bool.true_eq_false, implies_true, Bool.not_not, Classical.not_not, go_sem, Int.reduceToNat, List.take_nil, Nat.zero_mul, Nat.reduceEqDiff, Nat.reduceAdd, Nat.reduceLT, Nat.reduceLeDiff, Nat.reduceMul, ↓reduceIte, reduceCtorEq]
        have hd := decI_le (n := (0 : Int) + 1) (by omega) (by omega)
        refine ⟨by omega, itoaT_ (g := 2) _ (by omega) (by omega) rfl ?_⟩
        simp only [List.length_append, List.length_cons, List.length_nil, not_true_eq_false, not_false_eq_true, decide_true, decide_false, Bool.not_true, Bool.not_false, false_implies, true_implies, and_true, true_and, Bool.false_eq_true, Bool.true_eq_false, implies_true, Bool.not_not, Classical.not_not, go_sem, Int.reduceToNat, List.take_nil, Nat.zero_mul, Nat.reduceEqDiff, Nat.reduceAdd, Nat.reduceLT, Nat.reduceLeDiff, Nat.reduceMul, ↓reduceIte, reduceCtorEq]
        refine ⟨by omega, ?_⟩
        have hA : RepV L [wLine ++ decI ((0 : Int) + 1)] := .inl ⟨0, hlt', fun i h hi => absurd hi (Nat.not_lt_zero _), hp, rfl⟩
        exact Fin.pick [0, 1, 2, 3, 5] (.sl 4 0 [wLine ++ decI ((0 : Int) + 1)].length 1) [.ro (encByte.row C), .gl (laysC172_ren.g 15) ev, .gl (laysM171_ren.g 17) tabV, .rw ty_string (encStr.row L) cc, .rw ty_string (encStr.row [wLine ++ decI ((0 : Int) + 1)]) 1] ⟨_, 1, 1, rfl, rfl, hA⟩
    · have ek : 0 = L.length := by omega
      have eL : L = [] := List.eq_nil_of_length_eq_zero ek.symm
      have hall : ∀ l ∈ L, lnOk l := fun l h => by rw [eL] at h; cases h
      obtain ⟨S, hS0⟩ : ∃ S : List Task, S = [] := ⟨_, rfl⟩
      have eS : S = L.map tOf := by rw [hS0, eL]; rfl
      have hlen : S.length = L.length := by rw [eS, List.length_map]
      have hRd : ∀ x σ, Rd encTask (x :: σ) .sn S := fun x σ => by subst hS0; exact .inr ⟨rfl, rfl, Nat.succ_pos _⟩
      refine ⟨fun h5 => absurd h5 (by omega), fun h5 => ?_⟩
      have h5' : L.length ≤ 5 := by omega
      have hS : setOk S := by rw [eS]; exact set_ok h5' hall
      refine impl_UtilX_ hS (hRd _ _) ?_
      have hul := ut_le hS
      have hH := hyperN_pos hS
      simp only [utAV, not_true_eq_false, not_false_eq_true, decide_true, decide_false, Bool.not_true, Bool.not_false, false_implies, true_implies, and_true, true_and, Bool.false_eq_true, Bool.true_eq_false, implies_true, Bool.not_not, Classical.not_not, go_sem, Int.reduceToNat, List.take_nil, Nat.zero_mul, Nat.reduceEqDiff, Nat.reduceAdd, Nat.reduceLT, Nat.reduceLeDiff, Nat.reduceMul, ↓reduceIte, reduceCtorEq]
      refine seq_join (fun r : Int => ⟨[(3, .sn), (8, .p 4 0), (9, .s (bs (edfW r)))], [.ro (encByte.row C), .gl (laysC172_ren.g 15) ev, .gl (laysM171_ren.g 17) tabV, .rw ty_string (encStr.row L) cc, .rw ty_impl_Fraction [.i .i64 (utA S : Nat), .i .i64 (utB S : Nat)] 2]⟩) (fun r => FovP S r) ?_ ?_
      · simp only [not_true_eq_false, not_false_eq_true, decide_true, decide_false, Bool.not_true, Bool.not_false, false_implies, true_implies, and_true, true_and, Bool.false_eq_true, Bool.true_eq_false, implies_true, Bool.not_not, Classical.not_not, go_sem, Int.reduceToNat, List.take_nil, Nat.zero_mul, Nat.reduceEqDiff, Nat.reduceAdd, Nat.reduceLT, Nat.reduceLeDiff, Nat.reduceMul, ↓reduceIte, reduceCtorEq]
        refine impl_FirstOverload_ (S := S) (by omega) (hRd _ _) (fun h => absurd hS h) fun _ r hr => ?_
        have hr9 : r ≤ 27720 := by rcases hr with ⟨h1, _⟩ | ⟨_, h1, _⟩ <;> omega
        simp only [not_true_eq_false, not_false_eq_true, decide_true, decide_false, Bool.not_true, Bool.not_false, false_implies, true_implies, and_true, true_and, Bool.false_eq_true, Bool.true_eq_false, implies_true, Bool.not_not, Classical.not_not, go_sem, Int.reduceToNat, List.take_nil, Nat.zero_mul, Nat.reduceEqDiff, Nat.reduceAdd, Nat.reduceLT, Nat.reduceLeDiff, Nat.reduceMul, ↓reduceIte, reduceCtorEq]
        refine ⟨fun hpos => ?_, fun hneg => ?_⟩
        · have e : edfW r = 101 :: 100 :: 102 :: 32 :: 111 :: 118 :: 101 :: 114 :: 108 :: 111 :: 97 :: 100 :: 32 :: 97 :: 116 :: 32 :: decI r := by unfold edfW; rw [if_neg (by omega)]; rfl
          have hd := decI_le (n := r) (by omega) (by omega)
          refine itoaT_ (g := 2) r (by omega) (by omega) rfl ?_
          simp only [List.length_append, List.length_cons, List.length_nil, not_true_eq_false, not_false_eq_true, decide_true, decide_false, Bool.not_true, Bool.not_false, false_implies, true_implies, and_true, true_and, Bool.false_eq_true, Bool.true_eq_false, implies_true, Bool.not_not, Classical.not_not, go_sem, Int.reduceToNat, List.take_nil, Nat.zero_mul, Nat.reduceEqDiff, Nat.reduceAdd, Nat.reduceLT, Nat.reduceLeDiff, Nat.reduceMul, ↓reduceIte, reduceCtorEq]
          rw [← e]
          exact ⟨by omega, kJ_intro r hr (Wk.pick [0, 1, 2, 3, 4])⟩
        · have e : edfW r = [101, 100, 102, 32, 102, 101, 97, 115, 105, 98, 108, 101] := by unfold edfW; rw [if_pos (by omega)]; rfl
          rw [← e]
          exact kJ_intro r hr (Wk.pick [0, 1, 2, 3, 4])
      · rintro r hr
        simp only [not_true_eq_false, not_false_eq_true, decide_true, decide_false, Bool.not_true, Bool.not_false, false_implies, true_implies, and_true, true_and, Bool.false_eq_true, Bool.true_eq_false, implies_true, Bool.not_not, Classical.not_not, go_sem, Int.reduceToNat, List.take_nil, Nat.zero_mul, Nat.reduceEqDiff, Nat.reduceAdd, Nat.reduceLT, Nat.reduceLeDiff, Nat.reduceMul, ↓reduceIte, reduceCtorEq]
        refine impl_DM_ (S := S) (by omega) (hRd _ _) (fun h => absurd hS h) fun O c1 c2 hO => ?_
        have hOl := hO.ord.2.1
        simp only [not_true_eq_false, not_false_eq_true, decide_true, decide_false, Bool.not_true, Bool.not_false, false_implies, true_implies, and_true, true_and, Bool.false_eq_true, Bool.true_eq_false, implies_true, Bool.not_not, Classical.not_not, go_sem, Int.reduceToNat, List.take_nil, Nat.zero_mul, Nat.reduceEqDiff, Nat.reduceAdd, Nat.reduceLT, Nat.reduceLeDiff, Nat.reduceMul, ↓reduceIte, reduceCtorEq]
        refine impl_ResponseTimes_ (S := S) (O := O) (by omega) (by omega) (hRd _ _) (rdLen rfl hOl) (fun h => absurd hO.ord h) fun _ c3 => ?_
        have hRl := resps_length S (List.replicate S.length 0) O O.length
        have hRh := resps_hi hO.ord
        generalize hRR : resps S (List.replicate S.length 0) O O.length = R at *
        have hRh : ∀ r ∈ R, r ≤ 1000000000 := fun r h => by have := hRh r h; omega
        simp only [not_true_eq_false, not_false_eq_true, decide_true, decide_false, Bool.not_true, Bool.not_false, false_implies, true_implies, and_true, true_and, Bool.false_eq_true, Bool.true_eq_false, implies_true, Bool.not_not, Classical.not_not, go_sem, Int.reduceToNat, List.take_nil, Nat.zero_mul, Nat.reduceEqDiff, Nat.reduceAdd, Nat.reduceLT, Nat.reduceLeDiff, Nat.reduceMul, ↓reduceIte, reduceCtorEq]
        rw [← hRl]
        refine loop_count R.length (fun j => ⟨[(3, .sn), (8, .p 4 0), (9, .s (bs (edfW r))), (11, .s (bs (wResp ++ timesW (R.take j)))), (55, .sl 5 0 R.length c3), (56, .i .i64 R.length), (57, .i .i64 j)], [.ro (encByte.row C), .gl (laysC172_ren.g 15) ev, .gl (laysM171_ren.g 17) tabV, .rw ty_string (encStr.row L) cc, .rw ty_impl_Fraction [.i .i64 (utA S : Nat), .i .i64 (utB S : Nat)] 2, .rw ty_int (encInt.row R) c3]⟩) (fun _ => True) trivial (by
          show Wk 4 86 _ ⟨[(3, .sn), (8, .p 4 0), (9, .s (bs (edfW r))), (11, .s (bs [114, 101, 115, 112, 111, 110, 115, 101])), (55, .sl 5 0 R.length c3), (56, .i .i64 R.length), (57, .i .i64 0)], [.ro (encByte.row C), .gl (laysC172_ren.g 15) ev, .gl (laysM171_ren.g 17) tabV, .rw ty_string (encStr.row L) cc, .rw ty_impl_Fraction [.i .i64 (utA S : Nat), .i .i64 (utB S : Nat)] 2, .rw ty_int (encInt.row R) c3]⟩
          exact Wk.pick [0, 1, 2, 3, 4, 6]) fun j hj _ => ?_
        simp only [l0_impl_Report, not_true_eq_false, not_false_eq_true, decide_true, decide_false, Bool.not_true, Bool.not_false, false_implies, true_implies, and_true, true_and, Bool.false_eq_true, Bool.true_eq_false, implies_true, Bool.not_not, Classical.not_not, go_sem, Int.reduceToNat, List.take_nil, Nat.zero_mul, Nat.reduceEqDiff, Nat.reduceAdd, Nat.reduceLT, Nat.reduceLeDiff, Nat.reduceMul, ↓reduceIte, reduceCtorEq]
        have hle := timesW_le (R := R.take j) fun r hr => hRh r (List.mem_of_mem_take hr)
        rw [List.length_take] at hle
        have hwr : wResp.length = 8 := rfl
        refine ⟨fun hlt => ?_, fun hge => ?_⟩
        · have h1 := hRh _ (List.getElem_mem hlt)
          have e := timesW_succ hlt
          simp only [rdI hlt, lenI, not_true_eq_false, not_false_eq_true, decide_true, decide_false, Bool.not_true, Bool.not_false, false_implies, true_implies, and_true, true_and, Bool.false_eq_true, Bool.true_eq_false, implies_true, Bool.not_not, Classical.not_not, go_sem, Int.reduceToNat, List.take_nil, Nat.zero_mul, Nat.reduceEqDiff, Nat.reduceAdd, Nat.reduceLT, Nat.reduceLeDiff, Nat.reduceMul, ↓reduceIte, reduceCtorEq]
          refine ⟨hlt, hlt, fun hpos => ?_, fun hneg => ?_⟩
          · have e2 : timeW R[j] = 32 :: decI R[j] := by unfold timeW; rw [if_neg (by omega)]
            have hd := decI_le (n := R[j]) (by omega) h1
            rw [e, e2, ← List.append_assoc]
            refine itoaT_ (g := 2) _ (by omega) h1 rfl ?_
            simp only [List.length_append, List.length_cons, List.length_nil, hwr, not_true_eq_false, not_false_eq_true, decide_true, decide_false, Bool.not_true, Bool.not_false, false_implies, true_implies, and_true, true_and, Bool.false_eq_true, Bool.true_eq_false, implies_true, Bool.not_not, Classical.not_not, go_sem, Int.reduceToNat, List.take_nil, Nat.zero_mul, Nat.reduceEqDiff, Nat.reduceAdd, Nat.reduceLT, Nat.reduceLeDiff, Nat.reduceMul, ↓reduceIte, reduceCtorEq]
            exact ⟨by omega, by omega, by omega, hlt, Wk.pick [0, 1, 2, 3, 4, 5]⟩
          · have e2 : timeW R[j] = [32, 108, 97, 116, 101] := by unfold timeW; rw [if_pos (by omega)]; rfl
            rw [e, e2, ← List.append_assoc]
            simp only [List.length_append, List.length_cons, List.length_nil, hwr, not_true_eq_false, not_false_eq_true, decide_true, decide_false, Bool.not_true, Bool.not_false, false_implies, true_implies, and_true, true_and, Bool.false_eq_true, Bool.true_eq_false, implies_true, Bool.not_not, Classical.not_not, go_sem, Int.reduceToNat, List.take_nil, Nat.zero_mul, Nat.reduceEqDiff, Nat.reduceAdd, Nat.reduceLT, Nat.reduceLeDiff, Nat.reduceMul, ↓reduceIte, reduceCtorEq]
            exact ⟨by omega, by omega, hlt, Wk.pick [0, 1, 2, 3, 4, 5]⟩
        · have ej : j = R.length := by omega
          subst ej
          rw [List.take_length] at hle
          have hd1 : (decI (utA S : Nat)).length ≤ 10 := decI_le (by omega) (by omega)
          have hd2 : (decI (utB S : Nat)).length ≤ 10 := decI_le (by omega) (by omega)
          simp only [List.take_length, not_true_eq_false, not_false_eq_true, decide_true, decide_false, Bool.not_true, Bool.not_false, false_implies, true_implies, and_true, true_and, Bool.false_eq_true, Bool.true_eq_false, implies_true, Bool.not_not, Classical.not_not, go_sem, Int.reduceToNat, List.take_nil, Nat.zero_mul, Nat.reduceEqDiff, Nat.reduceAdd, Nat.reduceLT, Nat.reduceLeDiff, Nat.reduceMul, ↓reduceIte, reduceCtorEq]
          refine itoaT_ (g := 2) _ (by omega) (by omega) rfl ?_
          simp only [List.length_append, List.length_cons, List.length_nil, hwr, not_true_eq_false, not_false_eq_true, decide_true, decide_false, Bool.not_true, Bool.not_false, false_implies, true_implies, and_true, true_and, Bool.false_eq_true, Bool.true_eq_false, implies_true, Bool.not_not, Classical.not_not, go_sem, Int.reduceToNat, List.take_nil, Nat.zero_mul, Nat.reduceEqDiff, Nat.reduceAdd, Nat.reduceLT, Nat.reduceLeDiff, Nat.reduceMul, ↓reduceIte, reduceCtorEq]
          refine ⟨by omega, by omega, itoaT_ (g := 2) _ (by omega) (by omega) rfl ?_⟩
          simp only [List.length_append, List.length_cons, List.length_nil, hwr, not_true_eq_false, not_false_eq_true, decide_true, decide_false, Bool.not_true, Bool.not_false, false_implies, true_implies, and_true, true_and, Bool.false_eq_true, Bool.true_eq_false, implies_true, Bool.not_not, Classical.not_not, go_sem, Int.reduceToNat, List.take_nil, Nat.zero_mul, Nat.reduceEqDiff, Nat.reduceAdd, Nat.reduceLT, Nat.reduceLeDiff, Nat.reduceMul, ↓reduceIte, reduceCtorEq]
          refine ⟨by omega, impl_MinCores_ (S := S) (by omega) (hRd _ _) fun m hm => ?_⟩
          have hm9 : 0 ≤ m ∧ m ≤ 5 := by rcases hm with ⟨_, h1⟩ | ⟨_, h1, _⟩ <;> omega
          have hd := decI_le (n := m) (by omega) (by omega)
          simp only [not_true_eq_false, not_false_eq_true, decide_true, decide_false, Bool.not_true, Bool.not_false, false_implies, true_implies, and_true, true_and, Bool.false_eq_true, Bool.true_eq_false, implies_true, Bool.not_not, Classical.not_not, go_sem, Int.reduceToNat, List.take_nil, Nat.zero_mul, Nat.reduceEqDiff, Nat.reduceAdd, Nat.reduceLT, Nat.reduceLeDiff, Nat.reduceMul, ↓reduceIte, reduceCtorEq]
          refine itoaT_ (g := 2) _ (by omega) (by omega) rfl ?_
          simp only [List.length_append, List.length_cons, List.length_nil, hwr, not_true_eq_false, not_false_eq_true, decide_true, decide_false, Bool.not_true, Bool.not_false, false_implies, true_implies, and_true, true_and, Bool.false_eq_true, Bool.true_eq_false, implies_true, Bool.not_not, Classical.not_not, go_sem, Int.reduceToNat, List.take_nil, Nat.zero_mul, Nat.reduceEqDiff, Nat.reduceAdd, Nat.reduceLT, Nat.reduceLeDiff, Nat.reduceMul, ↓reduceIte, reduceCtorEq]
          refine ⟨by omega, ?_⟩
          have eU : (117 :: 116 :: 105 :: 108 :: 105 :: 122 :: 97 :: 116 :: 105 :: 111 :: 110 :: 32 :: (decI (utA S : Nat) ++ [47] ++ decI (utB S : Nat)) : List UInt8) = utW (utA S) (utB S) := by simp [utW, wUtil, decI_nat]
          rw [eU]
          have hA : RepV L [utW (utA S) (utB S), edfW r, wResp ++ timesW R, wCores ++ decI m] := .inr (.inr ⟨hall, h5', r, m, O, by rw [← eS]; exact hr, by rw [← eS]; exact hm, by rw [← eS]; exact hO, by rw [← eS, hRR]; rfl⟩)
          exact Fin.pick [0, 1, 2, 3, 6] (.sl 4 0 [utW (utA S) (utB S), edfW r, wResp ++ timesW R, wCores ++ decI m].length 4) [.ro (encByte.row C), .gl (laysC172_ren.g 15) ev, .gl (laysM171_ren.g 17) tabV, .rw ty_string (encStr.row L) cc, .rw ty_string (encStr.row [utW (utA S) (utB S), edfW r, wResp ++ timesW R, wCores ++ decI m]) 4] ⟨_, 4, 4, rfl, rfl, hA⟩
  · obtain ⟨hk1, hk, hJ⟩ := hJ
    have hlen : (setT L k).length = k := setT_len hk
    simp only [l1_impl_Report, repI, lenS, not_true_eq_false, not_false_eq_true, decide_true, decide_false, Bool.not_true, Bool.not_false, false_implies, true_implies, and_true, true_and, Bool.false_eq_true, Bool.true_eq_false, implies_true, Bool.not_not, Classical.not_not, go_sem, Int.reduceToNat, List.take_nil, Nat.zero_mul, Nat.reduceEqDiff, Nat.reduceAdd, Nat.reduceLT, Nat.reduceLeDiff, Nat.reduceMul, ↓reduceIte, reduceCtorEq]
    refine ⟨fun hlt => ?_, fun hge => ?_⟩
    · have hlt' : k < L.length := by omega
      have hlk := hl _ (List.getElem_mem hlt')
      simp only [rdS hlt', lenS, not_true_eq_false, not_false_eq_true, decide_true, decide_false, Bool.not_true, Bool.not_false, false_implies, true_implies, and_true, true_and, Bool.false_eq_true, Bool.true_eq_false, implies_true, Bool.not_not, Classical.not_not, go_sem, Int.reduceToNat, List.take_nil, Nat.zero_mul, Nat.reduceEqDiff, Nat.reduceAdd, Nat.reduceLT, Nat.reduceLeDiff, Nat.reduceMul, ↓reduceIte, reduceCtorEq]
      refine ⟨hlt', hlt', impl_ParseTask_ (g := 1) (by omega) rfl hev ?_⟩
      by_cases hp : lnOk L[k]
      · obtain ⟨t, ht⟩ := hp
        have et : setT L (k + 1) = setT L k ++ [t] := by unfold setT; rw [setT_succ hlt', tOf_eq ht]
        rw [parseAV_some ht]
        simp only [tAV, not_true_eq_false, not_false_eq_true, decide_true, decide_false, Bool.not_true, Bool.not_false, false_implies, true_implies, and_true, true_and, Bool.false_eq_true, Bool.true_eq_false, implies_true, Bool.not_not, Classical.not_not, go_sem, Int.reduceToNat, List.take_nil, Nat.zero_mul, Nat.reduceEqDiff, Nat.reduceAdd, Nat.reduceLT, Nat.reduceLeDiff, Nat.reduceMul, ↓reduceIte, reduceCtorEq, lenT, rdT0, rdT1, rdT2, winT, takeT, appT, splT, splI, winI, lenI, rdI, takeI, appI]
        refine ⟨by omega, fun cap' hcap => ⟨by omega, some (k + 1, cap'), ⟨⟨by omega, by omega, ?_⟩, by show L.length - (k + 1) < L.length - k; omega⟩, ?_⟩⟩
        · intro j h hj
          rcases Nat.lt_succ_iff_lt_or_eq.1 hj with h1 | h1
          · exact hJ j h h1
          · subst h1; exact ⟨t, ht⟩
        · simp only [et, List.length_append, List.length_cons, List.length_nil]
          exact Wk.pick [0, 1, 2, 3, 7]
      · rw [parseAV_none hp]
        simp only [tAV, not_true_eq_false, not_false_eq_true, decide_true, decide_false, Bool.not_true, Bool.not_false, false_implies, true_implies, and_true, true_and, Bool.false_eq_true, Bool.true_eq_false, implies_true, Bool.not_not, Classical.not_not, go_sem, Int.reduceToNat, List.take_nil, Nat.zero_mul, Nat.reduceEqDiff, Nat.reduceAdd, Nat.reduceLT, Nat.reduceLeDiff, Nat.reduceMul, ↓reduceIte, reduceCtorEq]
        have hd := decI_le (n := (k : Int) + 1) (by omega) (by omega)
        refine ⟨by omega, itoaT_ (g := 2) _ (by omega) (by omega) rfl ?_⟩
        simp only [List.length_append, List.length_cons, List.length_nil, not_true_eq_false, not_false_eq_true, decide_true, decide_false, Bool.not_true, Bool.not_false, false_implies, true_implies, and_true, true_and, Bool.false_eq_true, Bool.true_eq_false, implies_true, Bool.not_not, Classical.not_not, go_sem, Int.reduceToNat, List.take_nil, Nat.zero_mul, Nat.reduceEqDiff, Nat.reduceAdd, Nat.reduceLT, Nat.reduceLeDiff, Nat.reduceMul, ↓reduceIte, reduceCtorEq]
        refine ⟨by omega, ?_⟩
        have hA : RepV L [wLine ++ decI ((k : Int) + 1)] := .inl ⟨k, hlt', fun i h hi => hJ i h hi, hp, rfl⟩
        exact Fin.pick [0, 1, 2, 3, 6] (.sl 4 0 [wLine ++ decI ((k : Int) + 1)].length 1) [.ro (encByte.row C), .gl (laysC172_ren.g 15) ev, .gl (laysM171_ren.g 17) tabV, .rw ty_string (encStr.row L) cc, .rw ty_string (encStr.row [wLine ++ decI ((k : Int) + 1)]) 1] ⟨_, 1, 1, rfl, rfl, hA⟩
    · have ek : k = L.length := by omega
      subst ek
      have hall : ∀ l ∈ L, lnOk l := fun l h => by
        obtain ⟨i, hi, rfl⟩ := List.getElem_of_mem h
        exact hJ i hi hi
      have eS : setT L L.length = L.map tOf := by unfold setT; rw [List.take_length]
      generalize hSS : setT L L.length = S at *
      have hRd : True := trivial
      refine ⟨fun h5 => ?_, fun h5 => ?_⟩
      · exact Fin.pick [0, 1, 2, 3, 5] (.sl 4 0 [wMany].length 1) [.ro (encByte.row C), .gl (laysC172_ren.g 15) ev, .gl (laysM171_ren.g 17) tabV, .rw ty_string (encStr.row L) cc, .rw ty_string (encStr.row [wMany]) 1] ⟨_, 1, 1, rfl, rfl, .inr (.inl ⟨hall, by omega, rfl⟩)⟩
      have h5' : L.length ≤ 5 := by omega
      have hS : setOk S := by rw [eS]; exact set_ok h5' hall
      refine impl_UtilX_ hS (Rd.own rfl) ?_
      have hul := ut_le hS
      have hH := hyperN_pos hS
      simp only [utAV, not_true_eq_false, not_false_eq_true, decide_true, decide_false, Bool.not_true, Bool.not_false, false_implies, true_implies, and_true, true_and, Bool.false_eq_true, Bool.true_eq_false, implies_true, Bool.not_not, Classical.not_not, go_sem, Int.reduceToNat, List.take_nil, Nat.zero_mul, Nat.reduceEqDiff, Nat.reduceAdd, Nat.reduceLT, Nat.reduceLeDiff, Nat.reduceMul, ↓reduceIte, reduceCtorEq]
      refine seq_join (fun r : Int => ⟨[(3, .sl 4 0 S.length cap), (8, .p 5 0), (9, .s (bs (edfW r)))], [.ro (encByte.row C), .gl (laysC172_ren.g 15) ev, .gl (laysM171_ren.g 17) tabV, .rw ty_string (encStr.row L) cc, .rw ty_impl_Task (encTask.row S) (cap * 3), .rw ty_impl_Fraction [.i .i64 (utA S : Nat), .i .i64 (utB S : Nat)] 2]⟩) (fun r => FovP S r) ?_ ?_
      · simp only [not_true_eq_false, not_false_eq_true, decide_true, decide_false, Bool.not_true, Bool.not_false, false_implies, true_implies, and_true, true_and, Bool.false_eq_true, Bool.true_eq_false, implies_true, Bool.not_not, Classical.not_not, go_sem, Int.reduceToNat, List.take_nil, Nat.zero_mul, Nat.reduceEqDiff, Nat.reduceAdd, Nat.reduceLT, Nat.reduceLeDiff, Nat.reduceMul, ↓reduceIte, reduceCtorEq]
        refine impl_FirstOverload_ (S := S) (by omega) (Rd.own rfl) (fun h => absurd hS h) fun _ r hr => ?_
        have hr9 : r ≤ 27720 := by rcases hr with ⟨h1, _⟩ | ⟨_, h1, _⟩ <;> omega
        simp only [not_true_eq_false, not_false_eq_true, decide_true, decide_false, Bool.not_true, Bool.not_false, false_implies, true_implies, and_true, true_and, Bool.false_eq_true, Bool.true_eq_false, implies_true, Bool.not_not, Classical.not_not, go_sem, Int.reduceToNat, List.take_nil, Nat.zero_mul, Nat.reduceEqDiff, Nat.reduceAdd, Nat.reduceLT, Nat.reduceLeDiff, Nat.reduceMul, ↓reduceIte, reduceCtorEq]
        refine ⟨fun hpos => ?_, fun hneg => ?_⟩
        · have e : edfW r = 101 :: 100 :: 102 :: 32 :: 111 :: 118 :: 101 :: 114 :: 108 :: 111 :: 97 :: 100 :: 32 :: 97 :: 116 :: 32 :: decI r := by unfold edfW; rw [if_neg (by omega)]; rfl
          have hd := decI_le (n := r) (by omega) (by omega)
          refine itoaT_ (g := 2) r (by omega) (by omega) rfl ?_
          simp only [List.length_append, List.length_cons, List.length_nil, not_true_eq_false, not_false_eq_true, decide_true, decide_false, Bool.not_true, Bool.not_false, false_implies, true_implies, and_true, true_and, Bool.false_eq_true, Bool.true_eq_false, implies_true, Bool.not_not, Classical.not_not, go_sem, Int.reduceToNat, List.take_nil, Nat.zero_mul, Nat.reduceEqDiff, Nat.reduceAdd, Nat.reduceLT, Nat.reduceLeDiff, Nat.reduceMul, ↓reduceIte, reduceCtorEq]
          rw [← e]
          exact ⟨by omega, kJ_intro r hr (Wk.pick [0, 1, 2, 3, 4, 5])⟩
        · have e : edfW r = [101, 100, 102, 32, 102, 101, 97, 115, 105, 98, 108, 101] := by unfold edfW; rw [if_pos (by omega)]; rfl
          rw [← e]
          exact kJ_intro r hr (Wk.pick [0, 1, 2, 3, 4, 5])
      · rintro r hr
        simp only [not_true_eq_false, not_false_eq_true, decide_true, decide_false, Bool.not_true, Bool.not_false, false_implies, true_implies, and_true, true_and, Bool.false_eq_true, Bool.true_eq_false, implies_true, Bool.not_not, Classical.not_not, go_sem, Int.reduceToNat, List.take_nil, Nat.zero_mul, Nat.reduceEqDiff, Nat.reduceAdd, Nat.reduceLT, Nat.reduceLeDiff, Nat.reduceMul, ↓reduceIte, reduceCtorEq]
        refine impl_DM_ (S := S) (by omega) (Rd.own rfl) (fun h => absurd hS h) fun O c1 c2 hO => ?_
        have hOl := hO.ord.2.1
        simp only [not_true_eq_false, not_false_eq_true, decide_true, decide_false, Bool.not_true, Bool.not_false, false_implies, true_implies, and_true, true_and, Bool.false_eq_true, Bool.true_eq_false, implies_true, Bool.not_not, Classical.not_not, go_sem, Int.reduceToNat, List.take_nil, Nat.zero_mul, Nat.reduceEqDiff, Nat.reduceAdd, Nat.reduceLT, Nat.reduceLeDiff, Nat.reduceMul, ↓reduceIte, reduceCtorEq]
        refine impl_ResponseTimes_ (S := S) (O := O) (by omega) (by omega) (Rd.own rfl) (rdLen rfl hOl) (fun h => absurd hO.ord h) fun _ c3 => ?_
        have hRl := resps_length S (List.replicate S.length 0) O O.length
        have hRh := resps_hi hO.ord
        generalize hRR : resps S (List.replicate S.length 0) O O.length = R at *
        have hRh : ∀ r ∈ R, r ≤ 1000000000 := fun r h => by have := hRh r h; omega
        simp only [not_true_eq_false, not_false_eq_true, decide_true, decide_false, Bool.not_true, Bool.not_false, false_implies, true_implies, and_true, true_and, Bool.false_eq_true, Bool.true_eq_false, implies_true, Bool.not_not, Classical.not_not, go_sem, Int.reduceToNat, List.take_nil, Nat.zero_mul, Nat.reduceEqDiff, Nat.reduceAdd, Nat.reduceLT, Nat.reduceLeDiff, Nat.reduceMul, ↓reduceIte, reduceCtorEq]
        rw [← hRl]
        refine loop_count R.length (fun j => ⟨[(3, .sl 4 0 R.length cap), (8, .p 5 0), (9, .s (bs (edfW r))), (11, .s (bs (wResp ++ timesW (R.take j)))), (55, .sl 6 0 R.length c3), (56, .i .i64 R.length), (57, .i .i64 j)], [.ro (encByte.row C), .gl (laysC172_ren.g 15) ev, .gl (laysM171_ren.g 17) tabV, .rw ty_string (encStr.row L) cc, .rw ty_impl_Task (encTask.row S) (cap * 3), .rw ty_impl_Fraction [.i .i64 (utA S : Nat), .i .i64 (utB S : Nat)] 2, .rw ty_int (encInt.row R) c3]⟩) (fun _ => True) trivial (by
          show Wk 4 86 _ ⟨[(3, .sl 4 0 R.length cap), (8, .p 5 0), (9, .s (bs (edfW r))), (11, .s (bs [114, 101, 115, 112, 111, 110, 115, 101])), (55, .sl 6 0 R.length c3), (56, .i .i64 R.length), (57, .i .i64 0)], [.ro (encByte.row C), .gl (laysC172_ren.g 15) ev, .gl (laysM171_ren.g 17) tabV, .rw ty_string (encStr.row L) cc, .rw ty_impl_Task (encTask.row S) (cap * 3), .rw ty_impl_Fraction [.i .i64 (utA S : Nat), .i .i64 (utB S : Nat)] 2, .rw ty_int (encInt.row R) c3]⟩
          exact Wk.pick [0, 1, 2, 3, 4, 5, 7]) fun j hj _ => ?_
        simp only [l0_impl_Report, not_true_eq_false, not_false_eq_true, decide_true, decide_false, Bool.not_true, Bool.not_false, false_implies, true_implies, and_true, true_and, Bool.false_eq_true, Bool.true_eq_false, implies_true, Bool.not_not, Classical.not_not, go_sem, Int.reduceToNat, List.take_nil, Nat.zero_mul, Nat.reduceEqDiff, Nat.reduceAdd, Nat.reduceLT, Nat.reduceLeDiff, Nat.reduceMul, ↓reduceIte, reduceCtorEq]
        have hle := timesW_le (R := R.take j) fun r hr => hRh r (List.mem_of_mem_take hr)
        rw [List.length_take] at hle
        have hwr : wResp.length = 8 := rfl
        refine ⟨fun hlt => ?_, fun hge => ?_⟩
        · have h1 := hRh _ (List.getElem_mem hlt)
          have e := timesW_succ hlt
          simp only [rdI hlt, lenI, not_true_eq_false, not_false_eq_true, decide_true, decide_false, Bool.not_true, Bool.not_false, false_implies, true_implies, and_true, true_and, Bool.false_eq_true, Bool.true_eq_false, implies_true, Bool.not_not, Classical.not_not, go_sem, Int.reduceToNat, List.take_nil, Nat.zero_mul, Nat.reduceEqDiff, Nat.reduceAdd, Nat.reduceLT, Nat.reduceLeDiff, Nat.reduceMul, ↓reduceIte, reduceCtorEq]
          refine ⟨hlt, hlt, fun hpos => ?_, fun hneg => ?_⟩
          · have e2 : timeW R[j] = 32 :: decI R[j] := by unfold timeW; rw [if_neg (by omega)]
            have hd := decI_le (n := R[j]) (by omega) h1
            rw [e, e2, ← List.append_assoc]
            refine itoaT_ (g := 2) _ (by omega) h1 rfl ?_
            simp only [List.length_append, List.length_cons, List.length_nil, hwr, not_true_eq_false, not_false_eq_true, decide_true, decide_false, Bool.not_true, Bool.not_false, false_implies, true_implies, and_true, true_and, Bool.false_eq_true, Bool.true_eq_false, implies_true, Bool.not_not, Classical.not_not, go_sem, Int.reduceToNat, List.take_nil, Nat.zero_mul, Nat.reduceEqDiff, Nat.reduceAdd, Nat.reduceLT, Nat.reduceLeDiff, Nat.reduceMul, ↓reduceIte, reduceCtorEq]
            exact ⟨by omega, by omega, by omega, hlt, Wk.pick [0, 1, 2, 3, 4, 5, 6]⟩
          · have e2 : timeW R[j] = [32, 108, 97, 116, 101] := by unfold timeW; rw [if_pos (by omega)]; rfl
            rw [e, e2, ← List.append_assoc]
            simp only [List.length_append, List.length_cons, List.length_nil, hwr, not_true_eq_false, not_false_eq_true, decide_true, decide_false, Bool.not_true, Bool.not_false, false_implies, true_implies, and_true, true_and, Bool.false_eq_true, Bool.true_eq_false, implies_true, Bool.not_not, Classical.not_not, go_sem, Int.reduceToNat, List.take_nil, Nat.zero_mul, Nat.reduceEqDiff, Nat.reduceAdd, Nat.reduceLT, Nat.reduceLeDiff, Nat.reduceMul, ↓reduceIte, reduceCtorEq]
            exact ⟨by omega, by omega, hlt, Wk.pick [0, 1, 2, 3, 4, 5, 6]⟩
        · have ej : j = R.length := by omega
          subst ej
          rw [List.take_length] at hle
          have hd1 : (decI (utA S : Nat)).length ≤ 10 := decI_le (by omega) (by omega)
          have hd2 : (decI (utB S : Nat)).length ≤ 10 := decI_le (by omega) (by omega)
          simp only [List.take_length, not_true_eq_false, not_false_eq_true, decide_true, decide_false, Bool.not_true, Bool.not_false, false_implies, true_implies, and_true, true_and, Bool.false_eq_true, Bool.true_eq_false, implies_true, Bool.not_not, Classical.not_not, go_sem, Int.reduceToNat, List.take_nil, Nat.zero_mul, Nat.reduceEqDiff, Nat.reduceAdd, Nat.reduceLT, Nat.reduceLeDiff, Nat.reduceMul, ↓reduceIte, reduceCtorEq]
          refine itoaT_ (g := 2) _ (by omega) (by omega) rfl ?_
          simp only [List.length_append, List.length_cons, List.length_nil, hwr, not_true_eq_false, not_false_eq_true, decide_true, decide_false, Bool.not_true, Bool.not_false, false_implies, true_implies, and_true, true_and, Bool.false_eq_true, Bool.true_eq_false, implies_true, Bool.not_not, Classical.not_not, go_sem, Int.reduceToNat, List.take_nil, Nat.zero_mul, Nat.reduceEqDiff, Nat.reduceAdd, Nat.reduceLT, Nat.reduceLeDiff, Nat.reduceMul, ↓reduceIte, reduceCtorEq]
          refine ⟨by omega, by omega, itoaT_ (g := 2) _ (by omega) (by omega) rfl ?_⟩
          simp only [List.length_append, List.length_cons, List.length_nil, hwr, not_true_eq_false, not_false_eq_true, decide_true, decide_false, Bool.not_true, Bool.not_false, false_implies, true_implies, and_true, true_and, Bool.false_eq_true, Bool.true_eq_false, implies_true, Bool.not_not, Classical.not_not, go_sem, Int.reduceToNat, List.take_nil, Nat.zero_mul, Nat.reduceEqDiff, Nat.reduceAdd, Nat.reduceLT, Nat.reduceLeDiff, Nat.reduceMul, ↓reduceIte, reduceCtorEq]
          refine ⟨by omega, impl_MinCores_ (S := S) (by omega) (rdLen rfl hRl.symm) fun m hm => ?_⟩
          have hm9 : 0 ≤ m ∧ m ≤ 5 := by rcases hm with ⟨_, h1⟩ | ⟨_, h1, _⟩ <;> omega
          have hd := decI_le (n := m) (by omega) (by omega)
          simp only [not_true_eq_false, not_false_eq_true, decide_true, decide_false, Bool.not_true, Bool.not_false, false_implies, true_implies, and_true, true_and, Bool.false_eq_true, Bool.true_eq_false, implies_true, Bool.not_not, Classical.not_not, go_sem, Int.reduceToNat, List.take_nil, Nat.zero_mul, Nat.reduceEqDiff, Nat.reduceAdd, Nat.reduceLT, Nat.reduceLeDiff, Nat.reduceMul, ↓reduceIte, reduceCtorEq]
          refine itoaT_ (g := 2) _ (by omega) (by omega) rfl ?_
          simp only [List.length_append, List.length_cons, List.length_nil, hwr, not_true_eq_false, not_false_eq_true, decide_true, decide_false, Bool.not_true, Bool.not_false, false_implies, true_implies, and_true, true_and, Bool.false_eq_true, Bool.true_eq_false, implies_true, Bool.not_not, Classical.not_not, go_sem, Int.reduceToNat, List.take_nil, Nat.zero_mul, Nat.reduceEqDiff, Nat.reduceAdd, Nat.reduceLT, Nat.reduceLeDiff, Nat.reduceMul, ↓reduceIte, reduceCtorEq]
          refine ⟨by omega, ?_⟩
          have eU : (117 :: 116 :: 105 :: 108 :: 105 :: 122 :: 97 :: 116 :: 105 :: 111 :: 110 :: 32 :: (decI (utA S : Nat) ++ [47] ++ decI (utB S : Nat)) : List UInt8) = utW (utA S) (utB S) := by simp [utW, wUtil, decI_nat]
          rw [eU]
          have hA : RepV L [utW (utA S) (utB S), edfW r, wResp ++ timesW R, wCores ++ decI m] := .inr (.inr ⟨hall, h5', r, m, O, by rw [← eS]; exact hr, by rw [← eS]; exact hm, by rw [← eS]; exact hO, by rw [← eS, hRR]; rfl⟩)
          exact Fin.pick [0, 1, 2, 3, 7] (.sl 4 0 [utW (utA S) (utB S), edfW r, wResp ++ timesW R, wCores ++ decI m].length 4) [.ro (encByte.row C), .gl (laysC172_ren.g 15) ev, .gl (laysM171_ren.g 17) tabV, .rw ty_string (encStr.row L) cc, .rw ty_string (encStr.row [utW (utA S) (utB S), edfW r, wResp ++ timesW R, wCores ++ decI m]) 4] ⟨_, 4, 4, rfl, rfl, hA⟩
end
end Go.Proofs.YtfngcejaphhmmaaGreatDoor
/- Contracts: drawn lines for a report. -/
namespace Go.Proofs.YtfngcejaphhmmaaGreatDoor
open Go.Abs Go.Ds
set_option linter.unusedSimpArgs false
set_option linter.unusedVariables false
set_option maxRecDepth 20000
set_option maxHeartbeats 4000000
def DrR (x : AV) (τ : List AB) : Prop := ∃ (L : List (List UInt8)) (ca cc : Nat), x = .sl 1 0 L.length ca ∧ τ = [.rw ty_string (encStr.row L) cc] ∧ L.length ≤ 9 ∧ ∀ l ∈ L, l.length ≤ 1000
theorem mapS : ∀ F : List (List UInt8), (F.map fun l => AV.s (bs l)) = encStr.row F
  | [] => rfl
  | a :: F => by
    have h2 : encStr.row (a :: F) = .s (bs a) :: encStr.row F := rfl
    rw [List.map_cons, h2, mapS F]
theorem rd_str (F : List (List UInt8)) (k : Nat) (h : k < F.length) : ∃ E, E ∈ F ∧ rd (F.map fun l => AV.s (bs l)) k = .s (bs E) :=
  ⟨F[k], List.getElem_mem h, by
    rw [mapS, rdS h]⟩
theorem spec_DrawReport0 (C : List Nat) (hC : ∀ x ∈ C, x < 256) (c : Nat) : CallWp Tryz.prog n_spec_DrawReport [.sl 0 0 C.length c] [.ro (encByte.row C)] (fun x σ' => ∃ τ, σ' = [.ro (encByte.row C)] ++ τ ∧ DrR x τ) := by
  refine call_spec_DrawReport (by simp) ?_
  simp only [c_spec_DrawReport, not_true_eq_false, not_false_eq_true, decide_true, decide_false, Bool.not_true, Bool.not_false, false_implies, true_implies, and_true, true_and, Bool.false_eq_true, Bool.true_eq_false, implies_true, Bool.not_not, Classical.not_not, go_sem, Int.reduceToNat, List.take_nil, Nat.zero_mul, Nat.reduceEqDiff, Nat.reduceAdd, Nat.reduceLT, Nat.reduceLeDiff, Nat.reduceMul, ↓reduceIte, reduceCtorEq]
  refine (spec_l20Open01 C c).mono ?_
  rintro x σ' _ ⟨rfl, rfl⟩
  simp only [not_true_eq_false, not_false_eq_true, decide_true, decide_false, Bool.not_true, Bool.not_false, false_implies, true_implies, and_true, true_and, Bool.false_eq_true, Bool.true_eq_false, implies_true, Bool.not_not, Classical.not_not, go_sem, Int.reduceToNat, List.take_nil, Nat.zero_mul, Nat.reduceEqDiff, Nat.reduceAdd, Nat.reduceLT, Nat.reduceLeDiff, Nat.reduceMul, ↓reduceIte, reduceCtorEq]
  refine spec_l20Set_ (Rdr.take (τ := [])) (Code.take hC) (by omega) _ (by omega) fun S cap p1 h11 h12 hS8 hSw _ => ?_
  simp only [not_true_eq_false, not_false_eq_true, decide_true, decide_false, Bool.not_true, Bool.not_false, false_implies, true_implies, and_true, true_and, Bool.false_eq_true, Bool.true_eq_false, implies_true, Bool.not_not, Classical.not_not, go_sem, Int.reduceToNat, List.take_nil, Nat.zero_mul, Nat.reduceEqDiff, Nat.reduceAdd, Nat.reduceLT, Nat.reduceLeDiff, Nat.reduceMul, ↓reduceIte, reduceCtorEq]
  refine loop_intro (fun s : Nat × List (List UInt8) × Nat => ⟨[(3, .p 1 0), (4, .sl 2 0 S.length cap), (5, .sl 3 0 s.2.1.length s.2.2), (6, .i .i64 s.1)], [.ro (encByte.row C), .rw ty_spec_l20Rd [.sl 0 0 (C.take 2000).length c, .i .i64 p1] 2, .rw ty_impl_Task (encTask.row S) (cap * 3), .rw ty_string (encStr.row s.2.1) s.2.2]⟩)
    (fun s => s.1 ≤ S.length ∧ s.2.1.length = s.1 ∧ ∀ l ∈ s.2.1, l.length ≤ 1000) (fun s => S.length - s.1) (0, [], 0) ⟨Nat.zero_le _, rfl, by simp⟩ (Wk.pick [0, 1, 2, 3]) ?_
  rintro ⟨k, F, cc⟩ ⟨hk, hF, hl⟩
  simp only at hk hF hl
  subst hF
  simp only [l0_spec_DrawReport, not_true_eq_false, not_false_eq_true, decide_true, decide_false, Bool.not_true, Bool.not_false, false_implies, true_implies, and_true, true_and, Bool.false_eq_true, Bool.true_eq_false, implies_true, Bool.not_not, Classical.not_not, go_sem, Int.reduceToNat, List.take_nil, Nat.zero_mul, Nat.reduceEqDiff, Nat.reduceAdd, Nat.reduceLT, Nat.reduceLeDiff, Nat.reduceMul, ↓reduceIte, reduceCtorEq]
  refine ⟨fun hlt => ?_, fun hge => ?_⟩
  · have encf : [AV.i .i64 S[F.length].C, AV.i .i64 S[F.length].D, AV.i .i64 S[F.length].P] = encTask.f S[F.length] := rfl
    simp only [winT hlt, lenT, lenS, not_true_eq_false, not_false_eq_true, decide_true, decide_false, Bool.not_true, Bool.not_false, false_implies, true_implies, and_true, true_and, Bool.false_eq_true, Bool.true_eq_false, implies_true, Bool.not_not, Classical.not_not, go_sem, Int.reduceToNat, List.take_nil, Nat.zero_mul, Nat.reduceEqDiff, Nat.reduceAdd, Nat.reduceLT, Nat.reduceLeDiff, Nat.reduceMul, ↓reduceIte, reduceCtorEq]
    refine ⟨hlt, by omega, spec_FormatTask_ _ ?_⟩
    have hf := fmt_len S[F.length]
    simp only [lenS, takeS, appS, not_true_eq_false, not_false_eq_true, decide_true, decide_false, Bool.not_true, Bool.not_false, false_implies, true_implies, and_true, true_and, Bool.false_eq_true, Bool.true_eq_false, implies_true, Bool.not_not, Classical.not_not, go_sem, Int.reduceToNat, List.take_nil, Nat.zero_mul, Nat.reduceEqDiff, Nat.reduceAdd, Nat.reduceLT, Nat.reduceLeDiff, Nat.reduceMul, ↓reduceIte, reduceCtorEq]
    refine ⟨⟨by omega, by omega, by omega⟩, fun cap' hcap => ⟨by omega, (F.length + 1, F ++ [fmtT S[F.length]], cap'), ⟨⟨by simp only; omega, by simp, ?_⟩, by simp only; omega⟩, ?_⟩⟩
    · intro l hm
      rcases List.mem_append.1 hm with hm | hm
      · exact hl l hm
      · rw [List.mem_singleton.1 hm]; omega
    · simp only [List.length_append, List.length_cons, List.length_nil]
      exact Wk.pick [0, 1, 2, 5]
  · have hF8 : F.length ≤ 8 := by omega
    refine seq_join (fun s : List (List UInt8) × Nat => ⟨[(5, .sl 1 0 s.1.length s.2)], [.ro (encByte.row C), .rw ty_string (encStr.row s.1) s.2]⟩) (fun s => s.1.length ≤ 9 ∧ ∀ l ∈ s.1, l.length ≤ 1000) ?_ ?_
    · simp only [not_true_eq_false, not_false_eq_true, decide_true, decide_false, Bool.not_true, Bool.not_false, false_implies, true_implies, and_true, true_and, Bool.false_eq_true, Bool.true_eq_false, implies_true, Bool.not_not, Classical.not_not, go_sem, Int.reduceToNat, List.take_nil, Nat.zero_mul, Nat.reduceEqDiff, Nat.reduceAdd, Nat.reduceLT, Nat.reduceLeDiff, Nat.reduceMul, ↓reduceIte, reduceCtorEq]
      refine spec_l20Rd_odd_ (Rdr.take (τ := [_, _])) (Code.take hC) (by omega) _ (by omega) fun b q1 hb1 hb2 _ => ?_
      simp only [not_true_eq_false, not_false_eq_true, decide_true, decide_false, Bool.not_true, Bool.not_false, false_implies, true_implies, and_true, true_and, Bool.false_eq_true, Bool.true_eq_false, implies_true, Bool.not_not, Classical.not_not, go_sem, Int.reduceToNat, List.take_nil, Nat.zero_mul, Nat.reduceEqDiff, Nat.reduceAdd, Nat.reduceLT, Nat.reduceLeDiff, Nat.reduceMul, ↓reduceIte, reduceCtorEq]
      refine bc_of (fun hb => ?_) (fun hb => kJ_intro (F, cc) ⟨by simp only; omega, hl⟩ (Wk.pick [0, 3]))
      refine spec_l20Rd_pick_ (Rdr.take (τ := [_, _, _])) (Code.take hC) (by omega) _ (by omega) fun r r1 r2 _ => ?_
      obtain ⟨E, hE, eE⟩ := rd_str [[], [116, 97, 115, 107, 32, 49, 32, 49, 32, 49], [110, 111, 116, 104, 105, 110, 103]] r.toNat (by simp; omega)
      have hE9 : E.length ≤ 1000 := by
        simp only [List.mem_cons, List.not_mem_nil, or_false] at hE
        rcases hE with rfl | rfl | rfl <;> simp
      simp only [List.map_cons, List.map_nil] at eE
      simp only [eE, lenS, takeS, appS, not_true_eq_false, not_false_eq_true, decide_true, decide_false, Bool.not_true, Bool.not_false, false_implies, true_implies, and_true, true_and, Bool.false_eq_true, Bool.true_eq_false, implies_true, Bool.not_not, Classical.not_not, go_sem, Int.reduceToNat, List.take_nil, Nat.zero_mul, Nat.reduceEqDiff, Nat.reduceAdd, Nat.reduceLT, Nat.reduceLeDiff, Nat.reduceMul, ↓reduceIte, reduceCtorEq]
      refine ⟨by omega, by omega, by omega, fun cap' hcap => ?_⟩
      have hlen : F.length + 1 = (F ++ [E]).length := by simp
      rw [hlen]
      refine kJ_intro (F ++ [E], cap') ⟨by simp only [List.length_append, List.length_cons, List.length_nil]; omega, fun l hm => ?_⟩ (Wk.pick [0, 6])
      rcases List.mem_append.1 hm with hm | hm
      · exact hl l hm
      · rw [List.mem_singleton.1 hm]; omega
    · rintro ⟨F', c'⟩ ⟨h9, hl'⟩
      simp only at h9 hl'
      simp only [not_true_eq_false, not_false_eq_true, decide_true, decide_false, Bool.not_true, Bool.not_false, false_implies, true_implies, and_true, true_and, Bool.false_eq_true, Bool.true_eq_false, implies_true, Bool.not_not, Classical.not_not, go_sem, Int.reduceToNat, List.take_nil, Nat.zero_mul, Nat.reduceEqDiff, Nat.reduceAdd, Nat.reduceLT, Nat.reduceLeDiff, Nat.reduceMul, ↓reduceIte, reduceCtorEq]
      exact Fin.plain ⟨_, rfl, F', c', c', rfl, rfl, h9, hl'⟩
theorem spec_DrawReport_ {C : List Nat} (hC : ∀ x ∈ C, x < 256) {v : AV} {σ : List AB} (h : Rd encByte σ v C) {K : AV → List AB → Prop} (hk : ∀ (L : List (List UInt8)) (ca cc : Nat), L.length ≤ 9 → (∀ l ∈ L, l.length ≤ 1000) → K (.sl σ.length 0 L.length ca) (σ ++ [.rw ty_string (encStr.row L) cc])) : CallWp Tryz.prog n_spec_DrawReport [v] σ K := by
  refine call_news _ (rds1 h.r) (fun c => [.sl 0 0 C.length (c 0)]) DrR (fun c => spec_DrawReport0 C hC (c 0)) ?_ (fun ν c h => ⟨h.1, trivial⟩) (fun _ => rfl) ?_
  · rintro x τ ⟨L, ca, cc, rfl, rfl, _⟩; exact ⟨by simp [plainRw, encStr.row_flat], rfl⟩
  · rintro x τ ⟨L, ca, cc, rfl, rfl, h1, h2⟩
    exact hk L ca cc h1 h2
end Go.Proofs.YtfngcejaphhmmaaGreatDoor
