/- The law FnPartitionSafe answers true: over the abstract heap. -/
import Derived.Test.YtfngcejaphhmmaaS29
import Derived.Test.YtfngcejaphhmmaaS31
import Derived.Test.YtfngcejaphhmmaaS21
import Derived.Test.YtfngcejaphhmmaaS14
import Derived.Test.YtfngcejaphhmmaaV1
namespace Go.Proofs.Ytfngcejaphhmmaa
open Go.Abs Go.Ds
set_option linter.unusedSimpArgs false
set_option linter.unusedVariables false
set_option maxRecDepth 20000
set_option maxHeartbeats 2000000

theorem impl_CoreTasks0 (S : List Task) (m : Int) (A : List Int) (hv : asgV S m A) (v : Int) (hv2 : 0 ≤ v ∧ v < m) (c c' : Nat) : CallWp Try.prog n_impl_CoreTasks [.sl 0 0 S.length c, .i .i64 m, .sl 1 0 A.length c', .i .i64 v] [.ro (encTask.row S), .ro (encInt.row A)]
    (fun x σ' => ∃ τ, σ' = [.ro (encTask.row S), .ro (encInt.row A)] ++ τ ∧ OnP 2 (onC S A v A.length) x τ) := by
  have h5 := hv.1.1.1
  have hl := hv.2.1
  have hm := hv.1.2
  refine call_impl_CoreTasks (by simp) ?_
  simp only [c_impl_CoreTasks, not_true_eq_false, not_false_eq_true, decide_true, decide_false, Bool.not_true, Bool.not_false, false_implies, true_implies, and_true, true_and, Bool.false_eq_true, Bool.true_eq_false, implies_true, Bool.not_not, Classical.not_not, go_sem, Int.reduceToNat, List.take_nil, Nat.zero_mul, Nat.reduceEqDiff, Nat.reduceAdd, Nat.reduceLT, Nat.reduceLeDiff, Nat.reduceMul, ↓reduceIte, reduceCtorEq]
  refine impl_AssignmentValid_ (by omega) (by omega) (Rd.own rfl) (Rd.own rfl) ?_
  simp only [hv, not_true_eq_false, not_false_eq_true, decide_true, decide_false, Bool.not_true, Bool.not_false, false_implies, true_implies, and_true, true_and, Bool.false_eq_true, Bool.true_eq_false, implies_true, Bool.not_not, Classical.not_not, go_sem, Int.reduceToNat, List.take_nil, Nat.zero_mul, Nat.reduceEqDiff, Nat.reduceAdd, Nat.reduceLT, Nat.reduceLeDiff, Nat.reduceMul, ↓reduceIte, reduceCtorEq]
  refine ⟨by omega, impl_in_ _ _ _ ?_⟩
  simp only [not_true_eq_false, not_false_eq_true, decide_true, decide_false, Bool.not_true, Bool.not_false, false_implies, true_implies, and_true, true_and, Bool.false_eq_true, Bool.true_eq_false, implies_true, Bool.not_not, Classical.not_not, go_sem, Int.reduceToNat, List.take_nil, Nat.zero_mul, Nat.reduceEqDiff, Nat.reduceAdd, Nat.reduceLT, Nat.reduceLeDiff, Nat.reduceMul, ↓reduceIte, reduceCtorEq]
  refine ⟨fun h => absurd (by omega) h, fun _ => ?_⟩
  refine impl_onCore_ (S := S) (A := A) v (by omega) (by omega) (Rd.own rfl) (Rd.own rfl) fun x τ hx => ?_
  rcases hx with ⟨h1, rfl, rfl⟩ | ⟨c2, rfl, rfl⟩
  · simp only [not_true_eq_false, not_false_eq_true, decide_true, decide_false, Bool.not_true, Bool.not_false, false_implies, true_implies, and_true, true_and, Bool.false_eq_true, Bool.true_eq_false, implies_true, Bool.not_not, Classical.not_not, go_sem, Int.reduceToNat, List.take_nil, Nat.zero_mul, Nat.reduceEqDiff, Nat.reduceAdd, Nat.reduceLT, Nat.reduceLeDiff, Nat.reduceMul, ↓reduceIte, reduceCtorEq]
    exact Fin.plain ⟨[], rfl, .inl ⟨h1, rfl, rfl⟩⟩
  · simp only [not_true_eq_false, not_false_eq_true, decide_true, decide_false, Bool.not_true, Bool.not_false, false_implies, true_implies, and_true, true_and, Bool.false_eq_true, Bool.true_eq_false, implies_true, Bool.not_not, Classical.not_not, go_sem, Int.reduceToNat, List.take_nil, Nat.zero_mul, Nat.reduceEqDiff, Nat.reduceAdd, Nat.reduceLT, Nat.reduceLeDiff, Nat.reduceMul, ↓reduceIte, reduceCtorEq]
    exact Fin.plain ⟨_, rfl, .inr ⟨c2, rfl, rfl⟩⟩
theorem impl_CoreTasks_ {S : List Task} {m : Int} {A : List Int} (hv : asgV S m A) (v : Int) (hv2 : 0 ≤ v ∧ v < m) {x y : AV} {σ : List AB} (h : Rd encTask σ x S) (h' : Rd encInt σ y A) {K : AV → List AB → Prop} (hk : ∀ x τ, OnP σ.length (onC S A v A.length) x τ → K x (σ ++ τ)) :
    CallWp Try.prog n_impl_CoreTasks [x, .i .i64 m, y, .i .i64 v] σ K := by
  refine call_news _ (rds_cons h.r (rds1 h'.r)) (fun c => [.sl 0 0 S.length (c 0), .i .i64 m, .sl 1 0 A.length (c 1), .i .i64 v]) (OnP 2 (onC S A v A.length)) (fun c => impl_CoreTasks0 S m A hv v hv2 (c 0) (c 1)) (fun _ _ h => h.fr) (fun ν c h => ⟨h.1, .inl rfl, h.2.1, .inl rfl, trivial⟩) (fun _ => rfl) ?_
  rintro x τ (⟨h1, rfl, rfl⟩ | ⟨c', rfl, rfl⟩)
  · exact hk _ _ (.inl ⟨h1, rfl, rfl⟩)
  · exact hk _ _ (.inr ⟨c', rfl, rfl⟩)

theorem laws_FnPartitionSafe0 (C : List Nat) (hC : ∀ x ∈ C, x < 256) (c : Nat) (hc : C.length ≤ c) : CallWp Try.prog n_laws_FnPartitionSafe [.sl 0 0 C.length c] [.ro (encByte.row C)] (fun x _ => x = .b true) := by
  refine call_laws_FnPartitionSafe (by simp) ?_
  simp only [c_laws_FnPartitionSafe, go_sem, Int.reduceToNat, List.take_nil, Nat.zero_mul, Nat.reduceEqDiff, Nat.reduceAdd, Nat.reduceLT, Nat.reduceLeDiff, Nat.reduceMul, ↓reduceIte, reduceCtorEq]
  refine ⟨fun h => Fin.plain rfl, fun h => ?_⟩
  refine (spec_DrawPartition0 C hC c hc).mono ?_
  rintro x σ' _ ⟨S, cap, m, rfl, rfl, hS8, hm⟩
  simp only [go_sem, Int.reduceToNat, List.take_nil, Nat.zero_mul, Nat.reduceEqDiff, Nat.reduceAdd, Nat.reduceLT, Nat.reduceLeDiff, Nat.reduceMul, ↓reduceIte, reduceCtorEq]
  refine impl_Partition_ (S := S) (by omega) (Rd.own rfl) fun x τ hx => ?_
  rcases hx with ⟨A, c1, r1, rfl, rfl, hok, hA⟩ | ⟨rfl, rfl, hno⟩
  · simp only [go_sem, Int.reduceToNat, List.take_nil, Nat.zero_mul, Nat.reduceEqDiff, Nat.reduceAdd, Nat.reduceLT, Nat.reduceLeDiff, Nat.reduceMul, ↓reduceIte, reduceCtorEq]
    refine spec_Partition_ (S := S) (by omega) (Rd.own rfl) fun x τ hx => ?_
    rcases hx with ⟨A', c2, r2, rfl, rfl, _, hA'⟩ | ⟨rfl, rfl, hno⟩
    rotate_left
    · rw [hno hok] at hA; cases hA
    have hf := dfs_feas hA
    have hS := hok.1
    have hm1 := hok.2
    obtain ⟨M, rfl⟩ := Int.eq_ofNat_of_zero_le (show 0 ≤ m by omega)
    rw [Int.toNat_natCast] at hf
    obtain ⟨f1, f2, f3⟩ := hf
    simp only [not_true_eq_false, not_false_eq_true, decide_true, decide_false, Bool.not_true, Bool.not_false, false_implies, true_implies, and_true, true_and, Bool.false_eq_true, Bool.true_eq_false, implies_true, Bool.not_not, Classical.not_not, go_sem, Int.reduceToNat, List.take_nil, Nat.zero_mul, Nat.reduceEqDiff, Nat.reduceAdd, Nat.reduceLT, Nat.reduceLeDiff, Nat.reduceMul, ↓reduceIte, reduceCtorEq]
    refine loop_count M (fun k => ⟨[(3, .sl 1 0 S.length cap), (4, .i .i64 M), (5, .sl 2 0 A.length c1), (6, .b true), (9, .i .i64 k)], [.ro (encByte.row C), .rw ty_impl_Task (encTask.row S) (cap * 3), .rw ty_int (encInt.row A) r1]⟩) (fun _ => True) trivial (Wk.pick [0, 1, 2]) fun k hk _ => ?_
    simp only [l0_laws_FnPartitionSafe, not_true_eq_false, not_false_eq_true, decide_true, decide_false, Bool.not_true, Bool.not_false, false_implies, true_implies, and_true, true_and, Bool.false_eq_true, Bool.true_eq_false, implies_true, Bool.not_not, Classical.not_not, go_sem, Int.reduceToNat, List.take_nil, Nat.zero_mul, Nat.reduceEqDiff, Nat.reduceAdd, Nat.reduceLT, Nat.reduceLeDiff, Nat.reduceMul, ↓reduceIte, reduceCtorEq]
    refine ⟨fun hlt => ?_, fun hge => ?_⟩
    · have hfk := f3 k (by omega) (by omega)
      refine impl_CoreTasks_ (S := S) (A := A) ⟨hok, f1, f2⟩ k (by omega) (Rd.own rfl) (Rd.own rfl) fun x τ hx => ?_
      rw [f1] at hx
      have hrd := hx.rd (by simp)
      have hT5 := hfk.1.1
      generalize onC S A k S.length = T at hfk hx hrd hT5
      have hleg := sync_legal hfk.1 (lim := 120) (by omega) 120
      have hno : missedL (sync T 120 120) (edfFin (sync T 120 120)) = [] := edf_safe hleg (hyperN_hyper hfk.1) hfk.2
      have h60 := hleg.2.1.1
      have hF := edfFin_length (sync T 120 120)
      rcases hx with ⟨h1, rfl, rfl⟩ | ⟨c3, rfl, rfl⟩
      all_goals
        simp only [not_true_eq_false, not_false_eq_true, decide_true, decide_false, Bool.not_true, Bool.not_false, false_implies, true_implies, and_true, true_and, Bool.false_eq_true, Bool.true_eq_false, implies_true, Bool.not_not, Classical.not_not, go_sem, Int.reduceToNat, List.take_nil, Nat.zero_mul, Nat.reduceEqDiff, Nat.reduceAdd, Nat.reduceLT, Nat.reduceLeDiff, Nat.reduceMul, ↓reduceIte, reduceCtorEq]
        refine impl_Synchronous_ (S := T) (by omega) hrd (fun hemp => ?_) (fun _ hne c4 => ?_)
        · have he : sync T 120 120 = [] := by
            rcases hemp with h | h
            · exact absurd ⟨hfk.1, by omega, by omega⟩ h
            · exact h
          rw [he] at hno hleg hF
          simp only [not_true_eq_false, not_false_eq_true, decide_true, decide_false, Bool.not_true, Bool.not_false, false_implies, true_implies, and_true, true_and, Bool.false_eq_true, Bool.true_eq_false, implies_true, Bool.not_not, Classical.not_not, go_sem, Int.reduceToNat, List.take_nil, Nat.zero_mul, Nat.reduceEqDiff, Nat.reduceAdd, Nat.reduceLT, Nat.reduceLeDiff, Nat.reduceMul, ↓reduceIte, reduceCtorEq]
          refine impl_RunEdf_ (S := T) (L := []) (by omega) (by simp) (by first | exact Rd.own rfl | (rw [h1]; exact Rd.nul (by simp))) (Rd.nul (by simp)) (fun hno => absurd hleg hno) (fun _ d1 d2 => ?_)
          simp only [go_sem, Int.reduceToNat, List.take_nil, Nat.zero_mul, Nat.reduceEqDiff, Nat.reduceAdd, Nat.reduceLT, Nat.reduceLeDiff, Nat.reduceMul, ↓reduceIte, reduceCtorEq]
          refine impl_Missed_ (L := []) (fin := edfFin []) (by simp) hF (Rd.nul (by simp)) (Rd.owL rfl hF) (fun e => ?_) (fun e cM => absurd hno e)
          simp only [not_true_eq_false, not_false_eq_true, decide_true, decide_false, Bool.not_true, Bool.not_false, false_implies, true_implies, and_true, true_and, Bool.false_eq_true, Bool.true_eq_false, implies_true, Bool.not_not, Classical.not_not, go_sem, Int.reduceToNat, List.take_nil, Nat.zero_mul, Nat.reduceEqDiff, Nat.reduceAdd, Nat.reduceLT, Nat.reduceLeDiff, Nat.reduceMul, ↓reduceIte, reduceCtorEq]
          exact ⟨fun h => absurd h (by decide), fun _ => ⟨by omega, hlt, Wk.pick [0, 1, 2]⟩⟩
        · simp only [not_true_eq_false, not_false_eq_true, decide_true, decide_false, Bool.not_true, Bool.not_false, false_implies, true_implies, and_true, true_and, Bool.false_eq_true, Bool.true_eq_false, implies_true, Bool.not_not, Classical.not_not, go_sem, Int.reduceToNat, List.take_nil, Nat.zero_mul, Nat.reduceEqDiff, Nat.reduceAdd, Nat.reduceLT, Nat.reduceLeDiff, Nat.reduceMul, ↓reduceIte, reduceCtorEq]
          refine impl_RunEdf_ (S := T) (L := sync T 120 120) (by omega) (by omega) (by first | exact Rd.own rfl | (rw [h1]; exact Rd.nul (by simp))) (Rd.own rfl) (fun hno => absurd hleg hno) (fun _ d1 d2 => ?_)
          simp only [go_sem, Int.reduceToNat, List.take_nil, Nat.zero_mul, Nat.reduceEqDiff, Nat.reduceAdd, Nat.reduceLT, Nat.reduceLeDiff, Nat.reduceMul, ↓reduceIte, reduceCtorEq]
          refine impl_Missed_ (L := sync T 120 120) (fin := edfFin (sync T 120 120)) (by omega) hF (Rd.own rfl) (Rd.owL rfl hF) (fun e => ?_) (fun e cM => absurd hno e)
          simp only [not_true_eq_false, not_false_eq_true, decide_true, decide_false, Bool.not_true, Bool.not_false, false_implies, true_implies, and_true, true_and, Bool.false_eq_true, Bool.true_eq_false, implies_true, Bool.not_not, Classical.not_not, go_sem, Int.reduceToNat, List.take_nil, Nat.zero_mul, Nat.reduceEqDiff, Nat.reduceAdd, Nat.reduceLT, Nat.reduceLeDiff, Nat.reduceMul, ↓reduceIte, reduceCtorEq]
          exact ⟨fun h => absurd h (by decide), fun _ => ⟨by omega, hlt, Wk.pick [0, 1, 2]⟩⟩
    · refine laws_alive_ ?_
      simp only [not_true_eq_false, not_false_eq_true, decide_true, decide_false, Bool.not_true, Bool.not_false, false_implies, true_implies, and_true, true_and, Bool.false_eq_true, Bool.true_eq_false, implies_true, Bool.not_not, Classical.not_not, go_sem, Int.reduceToNat, List.take_nil, Nat.zero_mul, Nat.reduceEqDiff, Nat.reduceAdd, Nat.reduceLT, Nat.reduceLeDiff, Nat.reduceMul, ↓reduceIte, reduceCtorEq]
      exact Fin.plain rfl
  · simp only [go_sem, Int.reduceToNat, List.take_nil, Nat.zero_mul, Nat.reduceEqDiff, Nat.reduceAdd, Nat.reduceLT, Nat.reduceLeDiff, Nat.reduceMul, ↓reduceIte, reduceCtorEq]
    refine spec_Partition_ (S := S) (by omega) (Rd.own rfl) fun x τ hx => ?_
    rcases hx with ⟨A', c2, r2, rfl, rfl, hok, hA'⟩ | ⟨rfl, rfl, _⟩
    · rw [hno hok] at hA'; cases hA'
    simp only [not_true_eq_false, not_false_eq_true, decide_true, decide_false, Bool.not_true, Bool.not_false, false_implies, true_implies, and_true, true_and, Bool.false_eq_true, Bool.true_eq_false, implies_true, Bool.not_not, Classical.not_not, go_sem, Int.reduceToNat, List.take_nil, Nat.zero_mul, Nat.reduceEqDiff, Nat.reduceAdd, Nat.reduceLT, Nat.reduceLeDiff, Nat.reduceMul, ↓reduceIte, reduceCtorEq]
    refine loop_count 0 (fun k => ⟨[(3, .sl 1 0 S.length cap), (4, .i .i64 m), (5, .sn), (6, .b false), (9, .i .i64 k)], [.ro (encByte.row C), .rw ty_impl_Task (encTask.row S) (cap * 3)]⟩) (fun _ => True) trivial (Wk.pick [0, 1]) fun k hk _ => ?_
    simp only [l0_laws_FnPartitionSafe, not_true_eq_false, not_false_eq_true, decide_true, decide_false, Bool.not_true, Bool.not_false, false_implies, true_implies, and_true, true_and, Bool.false_eq_true, Bool.true_eq_false, implies_true, Bool.not_not, Classical.not_not, go_sem, Int.reduceToNat, List.take_nil, Nat.zero_mul, Nat.reduceEqDiff, Nat.reduceAdd, Nat.reduceLT, Nat.reduceLeDiff, Nat.reduceMul, ↓reduceIte, reduceCtorEq]
    refine laws_alive_ ?_
    simp only [not_true_eq_false, not_false_eq_true, decide_true, decide_false, Bool.not_true, Bool.not_false, false_implies, true_implies, and_true, true_and, Bool.false_eq_true, Bool.true_eq_false, implies_true, Bool.not_not, Classical.not_not, go_sem, Int.reduceToNat, List.take_nil, Nat.zero_mul, Nat.reduceEqDiff, Nat.reduceAdd, Nat.reduceLT, Nat.reduceLeDiff, Nat.reduceMul, ↓reduceIte, reduceCtorEq]
    exact Fin.plain rfl
theorem c_FnPartitionSafe (C : List Nat) (c : Nat) (hC : ∀ x ∈ C, x < 256) (_ : C.length * 1 ≤ 140737488351232) (hc : C.length ≤ c) :
    CallWp Try.prog n_laws_FnPartitionSafe [.sl 0 0 C.length c] [.ro (encByte.row C)] (fun x _ => x = .b true) := laws_FnPartitionSafe0 C hC c hc
end Go.Proofs.Ytfngcejaphhmmaa
