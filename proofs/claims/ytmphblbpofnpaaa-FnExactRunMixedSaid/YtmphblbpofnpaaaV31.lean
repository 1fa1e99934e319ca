import Derived.Test.YtmphblbpofnpaaaS47
import Derived.Test.YtmphblbpofnpaaaE13
import Derived.Test.YtmphblbpofnpaaaE5
import Derived.Test.YtmphblbpofnpaaaV29
namespace Go.Proofs.Ytmphblbpofnpaaa
open Go.Abs Go.Ds
set_option linter.unusedSimpArgs false
set_option linter.unusedVariables false
set_option maxRecDepth 20000
set_option maxHeartbeats 4000000
theorem Rd.none' {α : Type} {E : Enc α} {σ : List AB} (h : 0 < σ.length) : Rd E σ .sn [] := .inr ⟨rfl, rfl, h⟩
theorem laws_FnExactRunMixed0 (S : List MTask) (L : List Job) (hS : S.length ≤ 4611686018427387904) (hL : L.length ≤ 4611686018427387904) (c c' : Nat) : CallWp Try.prog n_laws_FnExactRunMixed [.sl 0 0 S.length c, .sl 1 0 L.length c'] [.ro (encMT.row S), .ro (encJob.row L)] (fun x _ => x = .b true) := by
  refine call_laws_FnExactRunMixed (by simp) ?_
  simp only [c_laws_FnExactRunMixed, not_true_eq_false, not_false_eq_true, decide_true, decide_false, Bool.not_true, Bool.not_false, false_implies, true_implies, and_true, true_and, Bool.false_eq_true, Bool.true_eq_false, implies_true, Bool.not_not, Classical.not_not, go_sem, Int.reduceToNat, List.take_nil, Nat.zero_mul, Nat.reduceEqDiff, Nat.reduceAdd, Nat.reduceLT, Nat.reduceLeDiff, Nat.reduceMul, ↓reduceIte, reduceCtorEq]
  refine laws_szMixedTaskS_ hS (by omega) (Rd.own rfl) ?_
  simp only [not_true_eq_false, not_false_eq_true, decide_true, decide_false, Bool.not_true, Bool.not_false, false_implies, true_implies, and_true, true_and, Bool.false_eq_true, Bool.true_eq_false, implies_true, Bool.not_not, Classical.not_not, go_sem, Int.reduceToNat, List.take_nil, Nat.zero_mul, Nat.reduceEqDiff, Nat.reduceAdd, Nat.reduceLT, Nat.reduceLeDiff, Nat.reduceMul, ↓reduceIte, reduceCtorEq]
  refine ⟨fun h1 => Fin.plain rfl, fun h1 => ?_⟩
  have hl : S.length ≤ 1048576 := by split at h1 <;> omega
  have hsz : (if (1048576 : Int) < S.length then -1 else 1048576 - (S.length : Int)) = 1048576 - (S.length : Int) := if_neg (by omega)
  simp only [hsz]
  refine laws_szJobS_ hL (by omega) (Rd.own rfl) ?_
  simp only [not_true_eq_false, not_false_eq_true, decide_true, decide_false, Bool.not_true, Bool.not_false, false_implies, true_implies, and_true, true_and, Bool.false_eq_true, Bool.true_eq_false, implies_true, Bool.not_not, Classical.not_not, go_sem, Int.reduceToNat, List.take_nil, Nat.zero_mul, Nat.reduceEqDiff, Nat.reduceAdd, Nat.reduceLT, Nat.reduceLeDiff, Nat.reduceMul, ↓reduceIte, reduceCtorEq]
  refine ⟨fun h2 => Fin.plain rfl, fun h2 => ?_⟩
  have hl2 : L.length ≤ 1048576 := by split at h2 <;> omega
  refine laws_toMixedTaskS_ (by omega) (Rd.own rfl) fun c1 => ?_
  simp only [go_sem, Int.reduceToNat, List.take_nil, Nat.zero_mul, Nat.reduceEqDiff, Nat.reduceAdd, Nat.reduceLT, Nat.reduceLeDiff, Nat.reduceMul, ↓reduceIte, reduceCtorEq]
  refine laws_toJobS_ (by omega) (Rd.own rfl) fun c2 => ?_
  simp only [go_sem, Int.reduceToNat, List.take_nil, Nat.zero_mul, Nat.reduceEqDiff, Nat.reduceAdd, Nat.reduceLT, Nat.reduceLeDiff, Nat.reduceMul, ↓reduceIte, reduceCtorEq]
  obtain ⟨nu, de, hsc⟩ := scale_any S
  have hR := mixRun_length S nu de L
  have hF := mixFin_length S nu de L
  by_cases hv : mixRunOk S L nu de
  · refine spec_RunMixed_ (S := S) (L := L) hsc (by omega) (by omega) (Rd.own rfl) (Rd.own rfl) (fun hno => absurd hv hno) fun _ => ?_
    have h60 := hv.2.2.1.1
    rintro x τ (⟨hno, _⟩ | ⟨_, d1, d2, ⟨hne, rfl, rfl⟩ | ⟨hne, rfl, rfl⟩⟩)
    · exact absurd trivial hno
    all_goals
      simp only [go_sem, Int.reduceToNat, List.take_nil, Nat.zero_mul, Nat.reduceEqDiff, Nat.reduceAdd, Nat.reduceLT, Nat.reduceLeDiff, Nat.reduceMul, ↓reduceIte, reduceCtorEq]
      refine laws_toMixedTaskS_ (by omega) (Rd.own rfl) fun c3 => ?_
      simp only [go_sem, Int.reduceToNat, List.take_nil, Nat.zero_mul, Nat.reduceEqDiff, Nat.reduceAdd, Nat.reduceLT, Nat.reduceLeDiff, Nat.reduceMul, ↓reduceIte, reduceCtorEq]
      refine laws_toJobS_ (by omega) (Rd.own rfl) fun c4 => ?_
      simp only [go_sem, Int.reduceToNat, List.take_nil, Nat.zero_mul, Nat.reduceEqDiff, Nat.reduceAdd, Nat.reduceLT, Nat.reduceLeDiff, Nat.reduceMul, ↓reduceIte, reduceCtorEq]
      refine impl_RunMixed_ (S := S) (L := L) hsc (by omega) (by omega) (Rd.own rfl) (Rd.own rfl) (fun hno => absurd hv hno) fun _ e1 e2 => ?_
      simp only [go_sem, Int.reduceToNat, List.take_nil, Nat.zero_mul, Nat.reduceEqDiff, Nat.reduceAdd, Nat.reduceLT, Nat.reduceLeDiff, Nat.reduceMul, ↓reduceIte, reduceCtorEq]
      refine laws_eqMixedRun_ (X1 := mixRun S nu de L) (Y1 := mixFin S nu de L) (X2 := mixRun S nu de L) (Y2 := mixFin S nu de L) (Rd.len' rfl hR) (Rd.len' rfl hF) (Rd.len' rfl hR) (by first | exact Rd.own rfl | (rw [hne]; exact Rd.none' (by simp))) (by omega) (by omega) ?_
      simp only [not_true_eq_false, not_false_eq_true, decide_true, decide_false, Bool.not_true, Bool.not_false, false_implies, true_implies, and_true, true_and, Bool.false_eq_true, Bool.true_eq_false, implies_true, Bool.not_not, Classical.not_not, go_sem, Int.reduceToNat, List.take_nil, Nat.zero_mul, Nat.reduceEqDiff, Nat.reduceAdd, Nat.reduceLT, Nat.reduceLeDiff, Nat.reduceMul, ↓reduceIte, reduceCtorEq]
      refine laws_toMixedTaskS_ (by omega) (Rd.own rfl) fun c5 => ?_
      simp only [go_sem, Int.reduceToNat, List.take_nil, Nat.zero_mul, Nat.reduceEqDiff, Nat.reduceAdd, Nat.reduceLT, Nat.reduceLeDiff, Nat.reduceMul, ↓reduceIte, reduceCtorEq]
      refine laws_eqMixedTaskS_ (by omega) (Rd.own rfl) (Rd.own rfl) ?_
      simp only [not_true_eq_false, not_false_eq_true, decide_true, decide_false, Bool.not_true, Bool.not_false, false_implies, true_implies, and_true, true_and, Bool.false_eq_true, Bool.true_eq_false, implies_true, Bool.not_not, Classical.not_not, go_sem, Int.reduceToNat, List.take_nil, Nat.zero_mul, Nat.reduceEqDiff, Nat.reduceAdd, Nat.reduceLT, Nat.reduceLeDiff, Nat.reduceMul, ↓reduceIte, reduceCtorEq]
      refine laws_toJobS_ (by omega) (Rd.own rfl) fun c6 => ?_
      simp only [go_sem, Int.reduceToNat, List.take_nil, Nat.zero_mul, Nat.reduceEqDiff, Nat.reduceAdd, Nat.reduceLT, Nat.reduceLeDiff, Nat.reduceMul, ↓reduceIte, reduceCtorEq]
      refine laws_eqJobS_ (by omega) (Rd.own rfl) (Rd.own rfl) ?_
      simp only [not_true_eq_false, not_false_eq_true, decide_true, decide_false, Bool.not_true, Bool.not_false, false_implies, true_implies, and_true, true_and, Bool.false_eq_true, Bool.true_eq_false, implies_true, Bool.not_not, Classical.not_not, go_sem, Int.reduceToNat, List.take_nil, Nat.zero_mul, Nat.reduceEqDiff, Nat.reduceAdd, Nat.reduceLT, Nat.reduceLeDiff, Nat.reduceMul, ↓reduceIte, reduceCtorEq]
      refine laws_markMixedTaskS_ (by omega) (by omega) rfl ?_
      simp only [go_sem, Int.reduceToNat, List.take_nil, Nat.zero_mul, Nat.reduceEqDiff, Nat.reduceAdd, Nat.reduceLT, Nat.reduceLeDiff, Nat.reduceMul, ↓reduceIte, reduceCtorEq]
      refine laws_markJobS_ (by omega) (by omega) rfl ?_
      simp only [not_true_eq_false, not_false_eq_true, decide_true, decide_false, Bool.not_true, Bool.not_false, false_implies, true_implies, and_true, true_and, Bool.false_eq_true, Bool.true_eq_false, implies_true, Bool.not_not, Classical.not_not, go_sem, Int.reduceToNat, List.take_nil, Nat.zero_mul, Nat.reduceEqDiff, Nat.reduceAdd, Nat.reduceLT, Nat.reduceLeDiff, Nat.reduceMul, ↓reduceIte, reduceCtorEq]
      refine ⟨fun _ => ?_, fun hbad => absurd hbad (by omega)⟩
      refine laws_eqMixedRun_ (X1 := mixRun S nu de L) (Y1 := mixFin S nu de L) (X2 := mixRun S nu de L) (Y2 := mixFin S nu de L) (Rd.len' rfl hR) (Rd.len' rfl hF) (Rd.len' rfl hR) (by first | exact Rd.own rfl | (rw [hne]; exact Rd.none' (by simp))) (by omega) (by omega) ?_
      simp only [not_true_eq_false, not_false_eq_true, decide_true, decide_false, Bool.not_true, Bool.not_false, false_implies, true_implies, and_true, true_and, Bool.false_eq_true, Bool.true_eq_false, implies_true, Bool.not_not, Classical.not_not, go_sem, Int.reduceToNat, List.take_nil, Nat.zero_mul, Nat.reduceEqDiff, Nat.reduceAdd, Nat.reduceLT, Nat.reduceLeDiff, Nat.reduceMul, ↓reduceIte, reduceCtorEq]
      refine laws_markMixedRun_len (X := mixRun S nu de L) (Y := mixFin S nu de L) hR hF rfl rfl (by decide) (by omega) (by omega) (by omega) ?_
      simp only [go_sem, Int.reduceToNat, List.take_nil, Nat.zero_mul, Nat.reduceEqDiff, Nat.reduceAdd, Nat.reduceLT, Nat.reduceLeDiff, Nat.reduceMul, ↓reduceIte, reduceCtorEq]
      have hmR : (marked 1 (mixRun S nu de L) 120).length = 120 := by rw [marked_length _ _ _ (by omega), hR]
      have hmF : (marked (1 + (120 : Nat)) (mixFin S nu de L) L.length).length = L.length := by rw [marked_length _ _ _ (by omega), hF]
      have r1 : isRun 1 (marked 1 (mixRun S nu de L) 120) := by have := isRun_marked 1 (mixRun S nu de L); rwa [hR] at this
      have r2 : isRun (1 + (120 : Nat)) (marked (1 + (120 : Nat)) (mixFin S nu de L) L.length) := by have := isRun_marked (1 + (120 : Nat)) (mixFin S nu de L); rwa [hF] at this
      refine laws_heldMixedRun_ (X := marked 1 (mixRun S nu de L) 120) (Y := marked (1 + (120 : Nat)) (mixFin S nu de L) L.length) (Rd.len' rfl hmR) (Rd.len' rfl hmF) (by omega) (by omega) (by omega) r1 (by rw [hmR]; exact r2) ?_
      rw [hmR, hmF]
      simp only [not_true_eq_false, not_false_eq_true, decide_true, decide_false, Bool.not_true, Bool.not_false, false_implies, true_implies, and_true, true_and, Bool.false_eq_true, Bool.true_eq_false, implies_true, Bool.not_not, Classical.not_not, go_sem, Int.reduceToNat, List.take_nil, Nat.zero_mul, Nat.reduceEqDiff, Nat.reduceAdd, Nat.reduceLT, Nat.reduceLeDiff, Nat.reduceMul, ↓reduceIte, reduceCtorEq]
      refine ⟨fun hbad => absurd hbad (by omega), fun _ => ?_⟩
      refine laws_toMixedTaskS_ (by omega) (Rd.own rfl) fun c7 => ?_
      simp only [go_sem, Int.reduceToNat, List.take_nil, Nat.zero_mul, Nat.reduceEqDiff, Nat.reduceAdd, Nat.reduceLT, Nat.reduceLeDiff, Nat.reduceMul, ↓reduceIte, reduceCtorEq]
      refine laws_toJobS_ (by omega) (Rd.own rfl) fun c8 => ?_
      simp only [go_sem, Int.reduceToNat, List.take_nil, Nat.zero_mul, Nat.reduceEqDiff, Nat.reduceAdd, Nat.reduceLT, Nat.reduceLeDiff, Nat.reduceMul, ↓reduceIte, reduceCtorEq]
      refine impl_RunMixed_ (S := S) (L := L) hsc (by omega) (by omega) (Rd.own rfl) (Rd.own rfl) (fun hno => absurd hv hno) fun _ e3 e4 => ?_
      simp only [go_sem, Int.reduceToNat, List.take_nil, Nat.zero_mul, Nat.reduceEqDiff, Nat.reduceAdd, Nat.reduceLT, Nat.reduceLeDiff, Nat.reduceMul, ↓reduceIte, reduceCtorEq]
      refine laws_eqMixedRun_ (X1 := mixRun S nu de L) (Y1 := mixFin S nu de L) (X2 := mixRun S nu de L) (Y2 := mixFin S nu de L) (Rd.len' rfl hR) (Rd.len' rfl hF) (Rd.len' rfl hR) (by first | exact Rd.own rfl | (rw [hne]; exact Rd.none' (by simp))) (by omega) (by omega) ?_
      simp only [not_true_eq_false, not_false_eq_true, decide_true, decide_false, Bool.not_true, Bool.not_false, false_implies, true_implies, and_true, true_and, Bool.false_eq_true, Bool.true_eq_false, implies_true, Bool.not_not, Classical.not_not, go_sem, Int.reduceToNat, List.take_nil, Nat.zero_mul, Nat.reduceEqDiff, Nat.reduceAdd, Nat.reduceLT, Nat.reduceLeDiff, Nat.reduceMul, ↓reduceIte, reduceCtorEq]
      refine laws_heldMixedRun_ (X := marked 1 (mixRun S nu de L) 120) (Y := marked (1 + (120 : Nat)) (mixFin S nu de L) L.length) (Rd.len' rfl hmR) (Rd.len' rfl hmF) (by omega) (by omega) (by omega) r1 (by rw [hmR]; exact r2) ?_
      rw [hmR, hmF]
      simp only [not_true_eq_false, not_false_eq_true, decide_true, decide_false, Bool.not_true, Bool.not_false, false_implies, true_implies, and_true, true_and, Bool.false_eq_true, Bool.true_eq_false, implies_true, Bool.not_not, Classical.not_not, go_sem, Int.reduceToNat, List.take_nil, Nat.zero_mul, Nat.reduceEqDiff, Nat.reduceAdd, Nat.reduceLT, Nat.reduceLeDiff, Nat.reduceMul, ↓reduceIte, reduceCtorEq]
      refine ⟨fun hbad => absurd hbad (by omega), fun _ => ?_⟩
      exact Fin.plain rfl
  · refine spec_RunMixed_ (S := S) (L := L) hsc (by omega) (by omega) (Rd.own rfl) (Rd.own rfl) (fun _ => ?_) fun h => absurd h hv
    have eqn : ∀ {σ : List AB} {K : AV → List AB → Prop}, 0 < σ.length → K (.b true) σ → CallWp Try.prog n_laws_eqMixedRun [.agg [.sn, .sn, .i .i64 0], .agg [.sn, .sn, .i .i64 0]] σ K := fun h0 hk =>
      laws_eqMixedRun_ (X1 := []) (Y1 := []) (X2 := []) (Y2 := []) (Rd.none' h0) (Rd.none' h0) (Rd.none' h0) (Rd.none' h0) (by simp) (by simp) (by simpa using hk)
    have held : ∀ {σ : List AB} {K : AV → List AB → Prop}, 0 < σ.length → K (.i .i64 1) σ → CallWp Try.prog n_laws_heldMixedRun [.agg [.sn, .sn, .i .i64 0], .i .i64 1] σ K := fun h0 hk =>
      laws_heldMixedRun_ (X := []) (Y := []) (Rd.none' h0) (Rd.none' h0) (by simp) (by simp) (by omega) (fun j h => by simp at h) (fun j h => by simp at h) (by simpa using hk)
    simp only [go_sem, Int.reduceToNat, List.take_nil, Nat.zero_mul, Nat.reduceEqDiff, Nat.reduceAdd, Nat.reduceLT, Nat.reduceLeDiff, Nat.reduceMul, ↓reduceIte, reduceCtorEq]
    refine laws_toMixedTaskS_ (by omega) (Rd.own rfl) fun c3 => ?_
    simp only [go_sem, Int.reduceToNat, List.take_nil, Nat.zero_mul, Nat.reduceEqDiff, Nat.reduceAdd, Nat.reduceLT, Nat.reduceLeDiff, Nat.reduceMul, ↓reduceIte, reduceCtorEq]
    refine laws_toJobS_ (by omega) (Rd.own rfl) fun c4 => ?_
    simp only [go_sem, Int.reduceToNat, List.take_nil, Nat.zero_mul, Nat.reduceEqDiff, Nat.reduceAdd, Nat.reduceLT, Nat.reduceLeDiff, Nat.reduceMul, ↓reduceIte, reduceCtorEq]
    refine impl_RunMixed_ (S := S) (L := L) hsc (by omega) (by omega) (Rd.own rfl) (Rd.own rfl) (fun _ => ?_) fun h => absurd h hv
    simp only [go_sem, Int.reduceToNat, List.take_nil, Nat.zero_mul, Nat.reduceEqDiff, Nat.reduceAdd, Nat.reduceLT, Nat.reduceLeDiff, Nat.reduceMul, ↓reduceIte, reduceCtorEq]
    refine eqn (by simp) ?_
    simp only [not_true_eq_false, not_false_eq_true, decide_true, decide_false, Bool.not_true, Bool.not_false, false_implies, true_implies, and_true, true_and, Bool.false_eq_true, Bool.true_eq_false, implies_true, Bool.not_not, Classical.not_not, go_sem, Int.reduceToNat, List.take_nil, Nat.zero_mul, Nat.reduceEqDiff, Nat.reduceAdd, Nat.reduceLT, Nat.reduceLeDiff, Nat.reduceMul, ↓reduceIte, reduceCtorEq]
    refine laws_toMixedTaskS_ (by omega) (Rd.own rfl) fun c5 => ?_
    simp only [go_sem, Int.reduceToNat, List.take_nil, Nat.zero_mul, Nat.reduceEqDiff, Nat.reduceAdd, Nat.reduceLT, Nat.reduceLeDiff, Nat.reduceMul, ↓reduceIte, reduceCtorEq]
    refine laws_eqMixedTaskS_ (by omega) (Rd.own rfl) (Rd.own rfl) ?_
    simp only [not_true_eq_false, not_false_eq_true, decide_true, decide_false, Bool.not_true, Bool.not_false, false_implies, true_implies, and_true, true_and, Bool.false_eq_true, Bool.true_eq_false, implies_true, Bool.not_not, Classical.not_not, go_sem, Int.reduceToNat, List.take_nil, Nat.zero_mul, Nat.reduceEqDiff, Nat.reduceAdd, Nat.reduceLT, Nat.reduceLeDiff, Nat.reduceMul, ↓reduceIte, reduceCtorEq]
    refine laws_toJobS_ (by omega) (Rd.own rfl) fun c6 => ?_
    simp only [go_sem, Int.reduceToNat, List.take_nil, Nat.zero_mul, Nat.reduceEqDiff, Nat.reduceAdd, Nat.reduceLT, Nat.reduceLeDiff, Nat.reduceMul, ↓reduceIte, reduceCtorEq]
    refine laws_eqJobS_ (by omega) (Rd.own rfl) (Rd.own rfl) ?_
    simp only [not_true_eq_false, not_false_eq_true, decide_true, decide_false, Bool.not_true, Bool.not_false, false_implies, true_implies, and_true, true_and, Bool.false_eq_true, Bool.true_eq_false, implies_true, Bool.not_not, Classical.not_not, go_sem, Int.reduceToNat, List.take_nil, Nat.zero_mul, Nat.reduceEqDiff, Nat.reduceAdd, Nat.reduceLT, Nat.reduceLeDiff, Nat.reduceMul, ↓reduceIte, reduceCtorEq]
    refine laws_markMixedTaskS_ (by omega) (by omega) rfl ?_
    simp only [go_sem, Int.reduceToNat, List.take_nil, Nat.zero_mul, Nat.reduceEqDiff, Nat.reduceAdd, Nat.reduceLT, Nat.reduceLeDiff, Nat.reduceMul, ↓reduceIte, reduceCtorEq]
    refine laws_markJobS_ (by omega) (by omega) rfl ?_
    simp only [not_true_eq_false, not_false_eq_true, decide_true, decide_false, Bool.not_true, Bool.not_false, false_implies, true_implies, and_true, true_and, Bool.false_eq_true, Bool.true_eq_false, implies_true, Bool.not_not, Classical.not_not, go_sem, Int.reduceToNat, List.take_nil, Nat.zero_mul, Nat.reduceEqDiff, Nat.reduceAdd, Nat.reduceLT, Nat.reduceLeDiff, Nat.reduceMul, ↓reduceIte, reduceCtorEq]
    refine ⟨fun _ => ?_, fun hbad => absurd hbad (by omega)⟩
    refine eqn (by simp) ?_
    simp only [not_true_eq_false, not_false_eq_true, decide_true, decide_false, Bool.not_true, Bool.not_false, false_implies, true_implies, and_true, true_and, Bool.false_eq_true, Bool.true_eq_false, implies_true, Bool.not_not, Classical.not_not, go_sem, Int.reduceToNat, List.take_nil, Nat.zero_mul, Nat.reduceEqDiff, Nat.reduceAdd, Nat.reduceLT, Nat.reduceLeDiff, Nat.reduceMul, ↓reduceIte, reduceCtorEq]
    refine laws_markMixedRun_nil ?_
    simp only [go_sem, Int.reduceToNat, List.take_nil, Nat.zero_mul, Nat.reduceEqDiff, Nat.reduceAdd, Nat.reduceLT, Nat.reduceLeDiff, Nat.reduceMul, ↓reduceIte, reduceCtorEq]
    refine held (by simp) ?_
    simp only [not_true_eq_false, not_false_eq_true, decide_true, decide_false, Bool.not_true, Bool.not_false, false_implies, true_implies, and_true, true_and, Bool.false_eq_true, Bool.true_eq_false, implies_true, Bool.not_not, Classical.not_not, go_sem, Int.reduceToNat, List.take_nil, Nat.zero_mul, Nat.reduceEqDiff, Nat.reduceAdd, Nat.reduceLT, Nat.reduceLeDiff, Nat.reduceMul, ↓reduceIte, reduceCtorEq]
    refine ⟨fun hbad => absurd hbad (by omega), fun _ => ?_⟩
    refine laws_toMixedTaskS_ (by omega) (Rd.own rfl) fun c7 => ?_
    simp only [go_sem, Int.reduceToNat, List.take_nil, Nat.zero_mul, Nat.reduceEqDiff, Nat.reduceAdd, Nat.reduceLT, Nat.reduceLeDiff, Nat.reduceMul, ↓reduceIte, reduceCtorEq]
    refine laws_toJobS_ (by omega) (Rd.own rfl) fun c8 => ?_
    simp only [go_sem, Int.reduceToNat, List.take_nil, Nat.zero_mul, Nat.reduceEqDiff, Nat.reduceAdd, Nat.reduceLT, Nat.reduceLeDiff, Nat.reduceMul, ↓reduceIte, reduceCtorEq]
    refine impl_RunMixed_ (S := S) (L := L) hsc (by omega) (by omega) (Rd.own rfl) (Rd.own rfl) (fun _ => ?_) fun h => absurd h hv
    simp only [go_sem, Int.reduceToNat, List.take_nil, Nat.zero_mul, Nat.reduceEqDiff, Nat.reduceAdd, Nat.reduceLT, Nat.reduceLeDiff, Nat.reduceMul, ↓reduceIte, reduceCtorEq]
    refine eqn (by simp) ?_
    simp only [not_true_eq_false, not_false_eq_true, decide_true, decide_false, Bool.not_true, Bool.not_false, false_implies, true_implies, and_true, true_and, Bool.false_eq_true, Bool.true_eq_false, implies_true, Bool.not_not, Classical.not_not, go_sem, Int.reduceToNat, List.take_nil, Nat.zero_mul, Nat.reduceEqDiff, Nat.reduceAdd, Nat.reduceLT, Nat.reduceLeDiff, Nat.reduceMul, ↓reduceIte, reduceCtorEq]
    refine held (by simp) ?_
    simp only [not_true_eq_false, not_false_eq_true, decide_true, decide_false, Bool.not_true, Bool.not_false, false_implies, true_implies, and_true, true_and, Bool.false_eq_true, Bool.true_eq_false, implies_true, Bool.not_not, Classical.not_not, go_sem, Int.reduceToNat, List.take_nil, Nat.zero_mul, Nat.reduceEqDiff, Nat.reduceAdd, Nat.reduceLT, Nat.reduceLeDiff, Nat.reduceMul, ↓reduceIte, reduceCtorEq]
    refine ⟨fun hbad => absurd hbad (by omega), fun _ => ?_⟩
    exact Fin.plain rfl
theorem c_FnExactRunMixed (S : List MTask) (c : Nat) (L : List Job) (c' : Nat) (_ : ∀ x ∈ S, True) (y : S.length * 32 ≤ 140737488351232) (_ : S.length ≤ c) (_ : ∀ x ∈ L, True) (z : L.length * 32 ≤ 140737488351232) (_ : L.length ≤ c') :
    CallWp Try.prog n_laws_FnExactRunMixed [.sl 0 0 S.length c, .sl 1 0 L.length c'] [.ro (encMT.row S), .ro (encJob.row L)] (fun x _ => x = .b true) := laws_FnExactRunMixed0 S L (by omega) (by omega) c c'
end Go.Proofs.Ytmphblbpofnpaaa
