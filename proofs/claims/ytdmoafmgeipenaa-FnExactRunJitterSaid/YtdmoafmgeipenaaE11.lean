/- The law FnExactRunJitter answers true: over the abstract heap. -/
import Derived.Test.YtdmoafmgeipenaaS13
import Derived.Test.YtdmoafmgeipenaaE9
import Derived.Test.YtdmoafmgeipenaaE5
namespace Go.Proofs.Ytdmoafmgeipenaa
open Go.Abs Go.Ds
set_option linter.unusedSimpArgs false
set_option linter.unusedVariables false
set_option maxRecDepth 20000
set_option maxHeartbeats 4000000

theorem Rd.none' {α : Type} {E : Enc α} {σ : List AB} (h : 0 < σ.length) : Rd E σ .sn [] := .inr ⟨rfl, rfl, h⟩
theorem fixRun_len (O : List Int) (L : List Job) : (fixRun O L).length = 120 := (simU_lens 120).2.2
theorem fixFin_len (O : List Int) (L : List Job) : (fixFin O L).length = L.length := (simU_lens 120).2.1

theorem laws_FnExactRunJitter0 (S : List Task) (J O : List Int) (L : List Job) (hS : S.length ≤ 4611686018427387904) (hL : L.length ≤ 4611686018427387904) (c cj co c' : Nat) : CallWp Try.prog n_laws_FnExactRunJitter [.sl 0 0 S.length c, .sl 1 0 J.length cj, .sl 2 0 O.length co, .sl 3 0 L.length c'] [.ro (encTask.row S), .ro (encInt.row J), .ro (encInt.row O), .ro (encJob.row L)] (fun x _ => x = .b true) := by
  refine call_laws_FnExactRunJitter (by simp) ?_
  simp only [c_laws_FnExactRunJitter, not_true_eq_false, not_false_eq_true, decide_true, decide_false, Bool.not_true, Bool.not_false, false_implies, true_implies, and_true, true_and, Bool.false_eq_true, Bool.true_eq_false, implies_true, Bool.not_not, Classical.not_not, go_sem, Int.reduceToNat, List.take_nil, Nat.zero_mul, Nat.reduceEqDiff, Nat.reduceAdd, Nat.reduceLT, Nat.reduceLeDiff, Nat.reduceMul, ↓reduceIte, reduceCtorEq]
  refine ⟨fun h => Fin.plain rfl, fun hJ1 => ⟨fun h' => Fin.plain rfl, fun hO1 => ?_⟩⟩
  refine laws_szTaskS_ hS (by omega) (Rd.own rfl) ?_
  simp only [not_true_eq_false, not_false_eq_true, decide_true, decide_false, Bool.not_true, Bool.not_false, false_implies, true_implies, and_true, true_and, Bool.false_eq_true, Bool.true_eq_false, implies_true, Bool.not_not, Classical.not_not, go_sem, Int.reduceToNat, List.take_nil, Nat.zero_mul, Nat.reduceEqDiff, Nat.reduceAdd, Nat.reduceLT, Nat.reduceLeDiff, Nat.reduceMul, ↓reduceIte, reduceCtorEq]
  refine ⟨fun h1 => Fin.plain rfl, fun h1 => ?_⟩
  have hl : S.length ≤ 1048576 := by split at h1 <;> omega
  have hsz : (if (1048576 : Int) < S.length then -1 else 1048576 - (S.length : Int)) = 1048576 - (S.length : Int) := if_neg (by omega)
  simp only [hsz]
  refine laws_szJobS_ hL (by omega) (Rd.own rfl) ?_
  simp only [not_true_eq_false, not_false_eq_true, decide_true, decide_false, Bool.not_true, Bool.not_false, false_implies, true_implies, and_true, true_and, Bool.false_eq_true, Bool.true_eq_false, implies_true, Bool.not_not, Classical.not_not, go_sem, Int.reduceToNat, List.take_nil, Nat.zero_mul, Nat.reduceEqDiff, Nat.reduceAdd, Nat.reduceLT, Nat.reduceLeDiff, Nat.reduceMul, ↓reduceIte, reduceCtorEq]
  refine ⟨fun h2 => Fin.plain rfl, fun h2 => ?_⟩
  have hl2 : L.length ≤ 1048576 := by split at h2 <;> omega
  refine laws_toTaskS_ (by omega) (Rd.own rfl) fun _ => ?_
  simp only [go_sem, Int.reduceToNat, List.take_nil, Nat.zero_mul, Nat.reduceEqDiff, Nat.reduceAdd, Nat.reduceLT, Nat.reduceLeDiff, Nat.reduceMul, ↓reduceIte, reduceCtorEq]
  refine laws_toIntS_ (by omega) (Rd.own rfl) fun _ => ?_
  simp only [go_sem, Int.reduceToNat, List.take_nil, Nat.zero_mul, Nat.reduceEqDiff, Nat.reduceAdd, Nat.reduceLT, Nat.reduceLeDiff, Nat.reduceMul, ↓reduceIte, reduceCtorEq]
  refine laws_toIntS_ (by omega) (Rd.own rfl) fun _ => ?_
  simp only [go_sem, Int.reduceToNat, List.take_nil, Nat.zero_mul, Nat.reduceEqDiff, Nat.reduceAdd, Nat.reduceLT, Nat.reduceLeDiff, Nat.reduceMul, ↓reduceIte, reduceCtorEq]
  refine laws_toJobS_ (by omega) (Rd.own rfl) fun _ => ?_
  simp only [go_sem, Int.reduceToNat, List.take_nil, Nat.zero_mul, Nat.reduceEqDiff, Nat.reduceAdd, Nat.reduceLT, Nat.reduceLeDiff, Nat.reduceMul, ↓reduceIte, reduceCtorEq]
  have hR := fixRun_len O L
  have hF := fixFin_len O L
  by_cases hv : jitRunOk S J O L
  · refine spec_RunJitter_ (S := S) (J := J) (O := O) (L := L) (by omega) (by omega) (by omega) (by omega) (Rd.own rfl) (Rd.own rfl) (Rd.own rfl) (Rd.own rfl) (fun hno => absurd hv hno) fun _ => ?_
    have h60 := hv.1.2.1.1
    rintro x τ (⟨hno, _⟩ | ⟨_, d1, d2, ⟨hne, rfl, rfl⟩ | ⟨hne, rfl, rfl⟩⟩)
    · exact absurd trivial hno
    all_goals
      simp only [go_sem, Int.reduceToNat, List.take_nil, Nat.zero_mul, Nat.reduceEqDiff, Nat.reduceAdd, Nat.reduceLT, Nat.reduceLeDiff, Nat.reduceMul, ↓reduceIte, reduceCtorEq]
      refine laws_toTaskS_ (by omega) (Rd.own rfl) fun _ => ?_
      simp only [go_sem, Int.reduceToNat, List.take_nil, Nat.zero_mul, Nat.reduceEqDiff, Nat.reduceAdd, Nat.reduceLT, Nat.reduceLeDiff, Nat.reduceMul, ↓reduceIte, reduceCtorEq]
      refine laws_toIntS_ (by omega) (Rd.own rfl) fun _ => ?_
      simp only [go_sem, Int.reduceToNat, List.take_nil, Nat.zero_mul, Nat.reduceEqDiff, Nat.reduceAdd, Nat.reduceLT, Nat.reduceLeDiff, Nat.reduceMul, ↓reduceIte, reduceCtorEq]
      refine laws_toIntS_ (by omega) (Rd.own rfl) fun _ => ?_
      simp only [go_sem, Int.reduceToNat, List.take_nil, Nat.zero_mul, Nat.reduceEqDiff, Nat.reduceAdd, Nat.reduceLT, Nat.reduceLeDiff, Nat.reduceMul, ↓reduceIte, reduceCtorEq]
      refine laws_toJobS_ (by omega) (Rd.own rfl) fun _ => ?_
      simp only [go_sem, Int.reduceToNat, List.take_nil, Nat.zero_mul, Nat.reduceEqDiff, Nat.reduceAdd, Nat.reduceLT, Nat.reduceLeDiff, Nat.reduceMul, ↓reduceIte, reduceCtorEq]
      refine impl_RunJitter_ (S := S) (J := J) (O := O) (L := L) (by omega) (by omega) (by omega) (by omega) (Rd.own rfl) (Rd.own rfl) (Rd.own rfl) (Rd.own rfl) (fun hno => absurd hv hno) fun _ _ _ => ?_
      simp only [go_sem, Int.reduceToNat, List.take_nil, Nat.zero_mul, Nat.reduceEqDiff, Nat.reduceAdd, Nat.reduceLT, Nat.reduceLeDiff, Nat.reduceMul, ↓reduceIte, reduceCtorEq]
      refine laws_eqSchedule_ (X1 := fixRun O L) (Y1 := fixFin O L) (X2 := fixRun O L) (Y2 := fixFin O L) (Rd.len' rfl hR) (Rd.len' rfl hF) (Rd.len' rfl hR) (by first | exact Rd.own rfl | (rw [hne]; exact Rd.none' (by simp))) (by omega) (by omega) ?_
      simp only [not_true_eq_false, not_false_eq_true, decide_true, decide_false, Bool.not_true, Bool.not_false, false_implies, true_implies, and_true, true_and, Bool.false_eq_true, Bool.true_eq_false, implies_true, Bool.not_not, Classical.not_not, go_sem, Int.reduceToNat, List.take_nil, Nat.zero_mul, Nat.reduceEqDiff, Nat.reduceAdd, Nat.reduceLT, Nat.reduceLeDiff, Nat.reduceMul, ↓reduceIte, reduceCtorEq]
      refine laws_toTaskS_ (by omega) (Rd.own rfl) fun _ => ?_
      simp only [go_sem, Int.reduceToNat, List.take_nil, Nat.zero_mul, Nat.reduceEqDiff, Nat.reduceAdd, Nat.reduceLT, Nat.reduceLeDiff, Nat.reduceMul, ↓reduceIte, reduceCtorEq]
      refine laws_eqTaskS_ (by omega) (Rd.own rfl) (Rd.own rfl) ?_
      simp only [not_true_eq_false, not_false_eq_true, decide_true, decide_false, Bool.not_true, Bool.not_false, false_implies, true_implies, and_true, true_and, Bool.false_eq_true, Bool.true_eq_false, implies_true, Bool.not_not, Classical.not_not, go_sem, Int.reduceToNat, List.take_nil, Nat.zero_mul, Nat.reduceEqDiff, Nat.reduceAdd, Nat.reduceLT, Nat.reduceLeDiff, Nat.reduceMul, ↓reduceIte, reduceCtorEq]
      refine laws_toIntS_ (by omega) (Rd.own rfl) fun _ => ?_
      simp only [go_sem, Int.reduceToNat, List.take_nil, Nat.zero_mul, Nat.reduceEqDiff, Nat.reduceAdd, Nat.reduceLT, Nat.reduceLeDiff, Nat.reduceMul, ↓reduceIte, reduceCtorEq]
      refine laws_eqIntS_ (by omega) (Rd.own rfl) (Rd.own rfl) ?_
      simp only [not_true_eq_false, not_false_eq_true, decide_true, decide_false, Bool.not_true, Bool.not_false, false_implies, true_implies, and_true, true_and, Bool.false_eq_true, Bool.true_eq_false, implies_true, Bool.not_not, Classical.not_not, go_sem, Int.reduceToNat, List.take_nil, Nat.zero_mul, Nat.reduceEqDiff, Nat.reduceAdd, Nat.reduceLT, Nat.reduceLeDiff, Nat.reduceMul, ↓reduceIte, reduceCtorEq]
      refine laws_toIntS_ (by omega) (Rd.own rfl) fun _ => ?_
      simp only [go_sem, Int.reduceToNat, List.take_nil, Nat.zero_mul, Nat.reduceEqDiff, Nat.reduceAdd, Nat.reduceLT, Nat.reduceLeDiff, Nat.reduceMul, ↓reduceIte, reduceCtorEq]
      refine laws_eqIntS_ (by omega) (Rd.own rfl) (Rd.own rfl) ?_
      simp only [not_true_eq_false, not_false_eq_true, decide_true, decide_false, Bool.not_true, Bool.not_false, false_implies, true_implies, and_true, true_and, Bool.false_eq_true, Bool.true_eq_false, implies_true, Bool.not_not, Classical.not_not, go_sem, Int.reduceToNat, List.take_nil, Nat.zero_mul, Nat.reduceEqDiff, Nat.reduceAdd, Nat.reduceLT, Nat.reduceLeDiff, Nat.reduceMul, ↓reduceIte, reduceCtorEq]
      refine laws_toJobS_ (by omega) (Rd.own rfl) fun _ => ?_
      simp only [go_sem, Int.reduceToNat, List.take_nil, Nat.zero_mul, Nat.reduceEqDiff, Nat.reduceAdd, Nat.reduceLT, Nat.reduceLeDiff, Nat.reduceMul, ↓reduceIte, reduceCtorEq]
      refine laws_eqJobS_ (by omega) (Rd.own rfl) (Rd.own rfl) ?_
      simp only [not_true_eq_false, not_false_eq_true, decide_true, decide_false, Bool.not_true, Bool.not_false, false_implies, true_implies, and_true, true_and, Bool.false_eq_true, Bool.true_eq_false, implies_true, Bool.not_not, Classical.not_not, go_sem, Int.reduceToNat, List.take_nil, Nat.zero_mul, Nat.reduceEqDiff, Nat.reduceAdd, Nat.reduceLT, Nat.reduceLeDiff, Nat.reduceMul, ↓reduceIte, reduceCtorEq]
      refine laws_markTaskS_ (by omega) (by omega) rfl ?_
      simp only [not_true_eq_false, not_false_eq_true, decide_true, decide_false, Bool.not_true, Bool.not_false, false_implies, true_implies, and_true, true_and, Bool.false_eq_true, Bool.true_eq_false, implies_true, Bool.not_not, Classical.not_not, go_sem, Int.reduceToNat, List.take_nil, Nat.zero_mul, Nat.reduceEqDiff, Nat.reduceAdd, Nat.reduceLT, Nat.reduceLeDiff, Nat.reduceMul, ↓reduceIte, reduceCtorEq]
      refine laws_markIntS_ (by omega) (by omega) rfl ?_
      simp only [not_true_eq_false, not_false_eq_true, decide_true, decide_false, Bool.not_true, Bool.not_false, false_implies, true_implies, and_true, true_and, Bool.false_eq_true, Bool.true_eq_false, implies_true, Bool.not_not, Classical.not_not, go_sem, Int.reduceToNat, List.take_nil, Nat.zero_mul, Nat.reduceEqDiff, Nat.reduceAdd, Nat.reduceLT, Nat.reduceLeDiff, Nat.reduceMul, ↓reduceIte, reduceCtorEq]
      refine laws_markIntS_ (by omega) (by omega) rfl ?_
      simp only [not_true_eq_false, not_false_eq_true, decide_true, decide_false, Bool.not_true, Bool.not_false, false_implies, true_implies, and_true, true_and, Bool.false_eq_true, Bool.true_eq_false, implies_true, Bool.not_not, Classical.not_not, go_sem, Int.reduceToNat, List.take_nil, Nat.zero_mul, Nat.reduceEqDiff, Nat.reduceAdd, Nat.reduceLT, Nat.reduceLeDiff, Nat.reduceMul, ↓reduceIte, reduceCtorEq]
      refine laws_markJobS_ (by omega) (by omega) rfl ?_
      simp only [not_true_eq_false, not_false_eq_true, decide_true, decide_false, Bool.not_true, Bool.not_false, false_implies, true_implies, and_true, true_and, Bool.false_eq_true, Bool.true_eq_false, implies_true, Bool.not_not, Classical.not_not, go_sem, Int.reduceToNat, List.take_nil, Nat.zero_mul, Nat.reduceEqDiff, Nat.reduceAdd, Nat.reduceLT, Nat.reduceLeDiff, Nat.reduceMul, ↓reduceIte, reduceCtorEq]
      refine ⟨fun _ => ?_, fun hbad => absurd hbad (by omega)⟩
      refine laws_eqSchedule_ (X1 := fixRun O L) (Y1 := fixFin O L) (X2 := fixRun O L) (Y2 := fixFin O L) (Rd.len' rfl hR) (Rd.len' rfl hF) (Rd.len' rfl hR) (by first | exact Rd.own rfl | (rw [hne]; exact Rd.none' (by simp))) (by omega) (by omega) ?_
      simp only [not_true_eq_false, not_false_eq_true, decide_true, decide_false, Bool.not_true, Bool.not_false, false_implies, true_implies, and_true, true_and, Bool.false_eq_true, Bool.true_eq_false, implies_true, Bool.not_not, Classical.not_not, go_sem, Int.reduceToNat, List.take_nil, Nat.zero_mul, Nat.reduceEqDiff, Nat.reduceAdd, Nat.reduceLT, Nat.reduceLeDiff, Nat.reduceMul, ↓reduceIte, reduceCtorEq]
      refine laws_markSchedule_len (X := fixRun O L) (Y := fixFin O L) hR hF rfl rfl (by decide) (by omega) (by omega) (by omega) ?_
      simp only [go_sem, Int.reduceToNat, List.take_nil, Nat.zero_mul, Nat.reduceEqDiff, Nat.reduceAdd, Nat.reduceLT, Nat.reduceLeDiff, Nat.reduceMul, ↓reduceIte, reduceCtorEq]
      have hmR : (marked 1 (fixRun O L) 120).length = 120 := by rw [marked_length _ _ _ (by omega), hR]
      have hmF : (marked (1 + (120 : Nat)) (fixFin O L) L.length).length = L.length := by rw [marked_length _ _ _ (by omega), hF]
      have r1 : isRun 1 (marked 1 (fixRun O L) 120) := by have := isRun_marked 1 (fixRun O L); rwa [hR] at this
      have r2 : isRun (1 + (120 : Nat)) (marked (1 + (120 : Nat)) (fixFin O L) L.length) := by have := isRun_marked (1 + (120 : Nat)) (fixFin O L); rwa [hF] at this
      refine laws_heldSchedule_ (X := marked 1 (fixRun O L) 120) (Y := marked (1 + (120 : Nat)) (fixFin O L) L.length) (Rd.len' rfl hmR) (Rd.len' rfl hmF) (by omega) (by omega) (by omega) r1 (by rw [hmR]; exact r2) ?_
      rw [hmR, hmF]
      simp only [not_true_eq_false, not_false_eq_true, decide_true, decide_false, Bool.not_true, Bool.not_false, false_implies, true_implies, and_true, true_and, Bool.false_eq_true, Bool.true_eq_false, implies_true, Bool.not_not, Classical.not_not, go_sem, Int.reduceToNat, List.take_nil, Nat.zero_mul, Nat.reduceEqDiff, Nat.reduceAdd, Nat.reduceLT, Nat.reduceLeDiff, Nat.reduceMul, ↓reduceIte, reduceCtorEq]
      refine ⟨fun hbad => absurd hbad (by omega), fun _ => ?_⟩
      refine laws_toTaskS_ (by omega) (Rd.own rfl) fun _ => ?_
      simp only [go_sem, Int.reduceToNat, List.take_nil, Nat.zero_mul, Nat.reduceEqDiff, Nat.reduceAdd, Nat.reduceLT, Nat.reduceLeDiff, Nat.reduceMul, ↓reduceIte, reduceCtorEq]
      refine laws_toIntS_ (by omega) (Rd.own rfl) fun _ => ?_
      simp only [go_sem, Int.reduceToNat, List.take_nil, Nat.zero_mul, Nat.reduceEqDiff, Nat.reduceAdd, Nat.reduceLT, Nat.reduceLeDiff, Nat.reduceMul, ↓reduceIte, reduceCtorEq]
      refine laws_toIntS_ (by omega) (Rd.own rfl) fun _ => ?_
      simp only [go_sem, Int.reduceToNat, List.take_nil, Nat.zero_mul, Nat.reduceEqDiff, Nat.reduceAdd, Nat.reduceLT, Nat.reduceLeDiff, Nat.reduceMul, ↓reduceIte, reduceCtorEq]
      refine laws_toJobS_ (by omega) (Rd.own rfl) fun _ => ?_
      simp only [go_sem, Int.reduceToNat, List.take_nil, Nat.zero_mul, Nat.reduceEqDiff, Nat.reduceAdd, Nat.reduceLT, Nat.reduceLeDiff, Nat.reduceMul, ↓reduceIte, reduceCtorEq]
      refine impl_RunJitter_ (S := S) (J := J) (O := O) (L := L) (by omega) (by omega) (by omega) (by omega) (Rd.own rfl) (Rd.own rfl) (Rd.own rfl) (Rd.own rfl) (fun hno => absurd hv hno) fun _ _ _ => ?_
      simp only [go_sem, Int.reduceToNat, List.take_nil, Nat.zero_mul, Nat.reduceEqDiff, Nat.reduceAdd, Nat.reduceLT, Nat.reduceLeDiff, Nat.reduceMul, ↓reduceIte, reduceCtorEq]
      refine laws_eqSchedule_ (X1 := fixRun O L) (Y1 := fixFin O L) (X2 := fixRun O L) (Y2 := fixFin O L) (Rd.len' rfl hR) (Rd.len' rfl hF) (Rd.len' rfl hR) (by first | exact Rd.own rfl | (rw [hne]; exact Rd.none' (by simp))) (by omega) (by omega) ?_
      simp only [not_true_eq_false, not_false_eq_true, decide_true, decide_false, Bool.not_true, Bool.not_false, false_implies, true_implies, and_true, true_and, Bool.false_eq_true, Bool.true_eq_false, implies_true, Bool.not_not, Classical.not_not, go_sem, Int.reduceToNat, List.take_nil, Nat.zero_mul, Nat.reduceEqDiff, Nat.reduceAdd, Nat.reduceLT, Nat.reduceLeDiff, Nat.reduceMul, ↓reduceIte, reduceCtorEq]
      refine laws_heldSchedule_ (X := marked 1 (fixRun O L) 120) (Y := marked (1 + (120 : Nat)) (fixFin O L) L.length) (Rd.len' rfl hmR) (Rd.len' rfl hmF) (by omega) (by omega) (by omega) r1 (by rw [hmR]; exact r2) ?_
      rw [hmR, hmF]
      simp only [not_true_eq_false, not_false_eq_true, decide_true, decide_false, Bool.not_true, Bool.not_false, false_implies, true_implies, and_true, true_and, Bool.false_eq_true, Bool.true_eq_false, implies_true, Bool.not_not, Classical.not_not, go_sem, Int.reduceToNat, List.take_nil, Nat.zero_mul, Nat.reduceEqDiff, Nat.reduceAdd, Nat.reduceLT, Nat.reduceLeDiff, Nat.reduceMul, ↓reduceIte, reduceCtorEq]
      refine ⟨fun hbad => absurd hbad (by omega), fun _ => ?_⟩
      exact Fin.plain rfl
  · refine spec_RunJitter_ (S := S) (J := J) (O := O) (L := L) (by omega) (by omega) (by omega) (by omega) (Rd.own rfl) (Rd.own rfl) (Rd.own rfl) (Rd.own rfl) (fun _ => ?_) fun h => absurd h hv
    have eqn : ∀ {σ : List AB} {K : AV → List AB → Prop}, 0 < σ.length → K (.b true) σ → CallWp Try.prog n_laws_eqSchedule [.agg [.sn, .sn], .agg [.sn, .sn]] σ K := fun h0 hk =>
      laws_eqSchedule_ (X1 := []) (Y1 := []) (X2 := []) (Y2 := []) (Rd.none' h0) (Rd.none' h0) (Rd.none' h0) (Rd.none' h0) (by simp) (by simp) (by simpa using hk)
    have held : ∀ {σ : List AB} {K : AV → List AB → Prop}, 0 < σ.length → K (.i .i64 1) σ → CallWp Try.prog n_laws_heldSchedule [.agg [.sn, .sn], .i .i64 1] σ K := fun h0 hk =>
      laws_heldSchedule_ (X := []) (Y := []) (Rd.none' h0) (Rd.none' h0) (by simp) (by simp) (by omega) (fun j h => by simp at h) (fun j h => by simp at h) (by simpa using hk)
    simp only [go_sem, Int.reduceToNat, List.take_nil, Nat.zero_mul, Nat.reduceEqDiff, Nat.reduceAdd, Nat.reduceLT, Nat.reduceLeDiff, Nat.reduceMul, ↓reduceIte, reduceCtorEq]
    refine laws_toTaskS_ (by omega) (Rd.own rfl) fun _ => ?_
    simp only [go_sem, Int.reduceToNat, List.take_nil, Nat.zero_mul, Nat.reduceEqDiff, Nat.reduceAdd, Nat.reduceLT, Nat.reduceLeDiff, Nat.reduceMul, ↓reduceIte, reduceCtorEq]
    refine laws_toIntS_ (by omega) (Rd.own rfl) fun _ => ?_
    simp only [go_sem, Int.reduceToNat, List.take_nil, Nat.zero_mul, Nat.reduceEqDiff, Nat.reduceAdd, Nat.reduceLT, Nat.reduceLeDiff, Nat.reduceMul, ↓reduceIte, reduceCtorEq]
    refine laws_toIntS_ (by omega) (Rd.own rfl) fun _ => ?_
    simp only [go_sem, Int.reduceToNat, List.take_nil, Nat.zero_mul, Nat.reduceEqDiff, Nat.reduceAdd, Nat.reduceLT, Nat.reduceLeDiff, Nat.reduceMul, ↓reduceIte, reduceCtorEq]
    refine laws_toJobS_ (by omega) (Rd.own rfl) fun _ => ?_
    simp only [go_sem, Int.reduceToNat, List.take_nil, Nat.zero_mul, Nat.reduceEqDiff, Nat.reduceAdd, Nat.reduceLT, Nat.reduceLeDiff, Nat.reduceMul, ↓reduceIte, reduceCtorEq]
    refine impl_RunJitter_ (S := S) (J := J) (O := O) (L := L) (by omega) (by omega) (by omega) (by omega) (Rd.own rfl) (Rd.own rfl) (Rd.own rfl) (Rd.own rfl) (fun _ => ?_) fun h => absurd h hv
    simp only [go_sem, Int.reduceToNat, List.take_nil, Nat.zero_mul, Nat.reduceEqDiff, Nat.reduceAdd, Nat.reduceLT, Nat.reduceLeDiff, Nat.reduceMul, ↓reduceIte, reduceCtorEq]
    refine eqn (by simp) ?_
    simp only [not_true_eq_false, not_false_eq_true, decide_true, decide_false, Bool.not_true, Bool.not_false, false_implies, true_implies, and_true, true_and, Bool.false_eq_true, Bool.true_eq_false, implies_true, Bool.not_not, Classical.not_not, go_sem, Int.reduceToNat, List.take_nil, Nat.zero_mul, Nat.reduceEqDiff, Nat.reduceAdd, Nat.reduceLT, Nat.reduceLeDiff, Nat.reduceMul, ↓reduceIte, reduceCtorEq]
    refine laws_toTaskS_ (by omega) (Rd.own rfl) fun _ => ?_
    simp only [go_sem, Int.reduceToNat, List.take_nil, Nat.zero_mul, Nat.reduceEqDiff, Nat.reduceAdd, Nat.reduceLT, Nat.reduceLeDiff, Nat.reduceMul, ↓reduceIte, reduceCtorEq]
    refine laws_eqTaskS_ (by omega) (Rd.own rfl) (Rd.own rfl) ?_
    simp only [not_true_eq_false, not_false_eq_true, decide_true, decide_false, Bool.not_true, Bool.not_false, false_implies, true_implies, and_true, true_and, Bool.false_eq_true, Bool.true_eq_false, implies_true, Bool.not_not, Classical.not_not, go_sem, Int.reduceToNat, List.take_nil, Nat.zero_mul, Nat.reduceEqDiff, Nat.reduceAdd, Nat.reduceLT, Nat.reduceLeDiff, Nat.reduceMul, ↓reduceIte, reduceCtorEq]
    refine laws_toIntS_ (by omega) (Rd.own rfl) fun _ => ?_
    simp only [go_sem, Int.reduceToNat, List.take_nil, Nat.zero_mul, Nat.reduceEqDiff, Nat.reduceAdd, Nat.reduceLT, Nat.reduceLeDiff, Nat.reduceMul, ↓reduceIte, reduceCtorEq]
    refine laws_eqIntS_ (by omega) (Rd.own rfl) (Rd.own rfl) ?_
    simp only [not_true_eq_false, not_false_eq_true, decide_true, decide_false, Bool.not_true, Bool.not_false, false_implies, true_implies, and_true, true_and, Bool.false_eq_true, Bool.true_eq_false, implies_true, Bool.not_not, Classical.not_not, go_sem, Int.reduceToNat, List.take_nil, Nat.zero_mul, Nat.reduceEqDiff, Nat.reduceAdd, Nat.reduceLT, Nat.reduceLeDiff, Nat.reduceMul, ↓reduceIte, reduceCtorEq]
    refine laws_toIntS_ (by omega) (Rd.own rfl) fun _ => ?_
    simp only [go_sem, Int.reduceToNat, List.take_nil, Nat.zero_mul, Nat.reduceEqDiff, Nat.reduceAdd, Nat.reduceLT, Nat.reduceLeDiff, Nat.reduceMul, ↓reduceIte, reduceCtorEq]
    refine laws_eqIntS_ (by omega) (Rd.own rfl) (Rd.own rfl) ?_
    simp only [not_true_eq_false, not_false_eq_true, decide_true, decide_false, Bool.not_true, Bool.not_false, false_implies, true_implies, and_true, true_and, Bool.false_eq_true, Bool.true_eq_false, implies_true, Bool.not_not, Classical.not_not, go_sem, Int.reduceToNat, List.take_nil, Nat.zero_mul, Nat.reduceEqDiff, Nat.reduceAdd, Nat.reduceLT, Nat.reduceLeDiff, Nat.reduceMul, ↓reduceIte, reduceCtorEq]
    refine laws_toJobS_ (by omega) (Rd.own rfl) fun _ => ?_
    simp only [go_sem, Int.reduceToNat, List.take_nil, Nat.zero_mul, Nat.reduceEqDiff, Nat.reduceAdd, Nat.reduceLT, Nat.reduceLeDiff, Nat.reduceMul, ↓reduceIte, reduceCtorEq]
    refine laws_eqJobS_ (by omega) (Rd.own rfl) (Rd.own rfl) ?_
    simp only [not_true_eq_false, not_false_eq_true, decide_true, decide_false, Bool.not_true, Bool.not_false, false_implies, true_implies, and_true, true_and, Bool.false_eq_true, Bool.true_eq_false, implies_true, Bool.not_not, Classical.not_not, go_sem, Int.reduceToNat, List.take_nil, Nat.zero_mul, Nat.reduceEqDiff, Nat.reduceAdd, Nat.reduceLT, Nat.reduceLeDiff, Nat.reduceMul, ↓reduceIte, reduceCtorEq]
    refine laws_markTaskS_ (by omega) (by omega) rfl ?_
    simp only [not_true_eq_false, not_false_eq_true, decide_true, decide_false, Bool.not_true, Bool.not_false, false_implies, true_implies, and_true, true_and, Bool.false_eq_true, Bool.true_eq_false, implies_true, Bool.not_not, Classical.not_not, go_sem, Int.reduceToNat, List.take_nil, Nat.zero_mul, Nat.reduceEqDiff, Nat.reduceAdd, Nat.reduceLT, Nat.reduceLeDiff, Nat.reduceMul, ↓reduceIte, reduceCtorEq]
    refine laws_markIntS_ (by omega) (by omega) rfl ?_
    simp only [not_true_eq_false, not_false_eq_true, decide_true, decide_false, Bool.not_true, Bool.not_false, false_implies, true_implies, and_true, true_and, Bool.false_eq_true, Bool.true_eq_false, implies_true, Bool.not_not, Classical.not_not, go_sem, Int.reduceToNat, List.take_nil, Nat.zero_mul, Nat.reduceEqDiff, Nat.reduceAdd, Nat.reduceLT, Nat.reduceLeDiff, Nat.reduceMul, ↓reduceIte, reduceCtorEq]
    refine laws_markIntS_ (by omega) (by omega) rfl ?_
    simp only [not_true_eq_false, not_false_eq_true, decide_true, decide_false, Bool.not_true, Bool.not_false, false_implies, true_implies, and_true, true_and, Bool.false_eq_true, Bool.true_eq_false, implies_true, Bool.not_not, Classical.not_not, go_sem, Int.reduceToNat, List.take_nil, Nat.zero_mul, Nat.reduceEqDiff, Nat.reduceAdd, Nat.reduceLT, Nat.reduceLeDiff, Nat.reduceMul, ↓reduceIte, reduceCtorEq]
    refine laws_markJobS_ (by omega) (by omega) rfl ?_
    simp only [not_true_eq_false, not_false_eq_true, decide_true, decide_false, Bool.not_true, Bool.not_false, false_implies, true_implies, and_true, true_and, Bool.false_eq_true, Bool.true_eq_false, implies_true, Bool.not_not, Classical.not_not, go_sem, Int.reduceToNat, List.take_nil, Nat.zero_mul, Nat.reduceEqDiff, Nat.reduceAdd, Nat.reduceLT, Nat.reduceLeDiff, Nat.reduceMul, ↓reduceIte, reduceCtorEq]
    refine ⟨fun _ => ?_, fun hbad => absurd hbad (by omega)⟩
    refine eqn (by simp) ?_
    simp only [not_true_eq_false, not_false_eq_true, decide_true, decide_false, Bool.not_true, Bool.not_false, false_implies, true_implies, and_true, true_and, Bool.false_eq_true, Bool.true_eq_false, implies_true, Bool.not_not, Classical.not_not, go_sem, Int.reduceToNat, List.take_nil, Nat.zero_mul, Nat.reduceEqDiff, Nat.reduceAdd, Nat.reduceLT, Nat.reduceLeDiff, Nat.reduceMul, ↓reduceIte, reduceCtorEq]
    refine laws_markSchedule_nil ?_
    simp only [go_sem, Int.reduceToNat, List.take_nil, Nat.zero_mul, Nat.reduceEqDiff, Nat.reduceAdd, Nat.reduceLT, Nat.reduceLeDiff, Nat.reduceMul, ↓reduceIte, reduceCtorEq]
    refine held (by simp) ?_
    simp only [not_true_eq_false, not_false_eq_true, decide_true, decide_false, Bool.not_true, Bool.not_false, false_implies, true_implies, and_true, true_and, Bool.false_eq_true, Bool.true_eq_false, implies_true, Bool.not_not, Classical.not_not, go_sem, Int.reduceToNat, List.take_nil, Nat.zero_mul, Nat.reduceEqDiff, Nat.reduceAdd, Nat.reduceLT, Nat.reduceLeDiff, Nat.reduceMul, ↓reduceIte, reduceCtorEq]
    refine ⟨fun hbad => absurd hbad (by omega), fun _ => ?_⟩
    refine laws_toTaskS_ (by omega) (Rd.own rfl) fun _ => ?_
    simp only [go_sem, Int.reduceToNat, List.take_nil, Nat.zero_mul, Nat.reduceEqDiff, Nat.reduceAdd, Nat.reduceLT, Nat.reduceLeDiff, Nat.reduceMul, ↓reduceIte, reduceCtorEq]
    refine laws_toIntS_ (by omega) (Rd.own rfl) fun _ => ?_
    simp only [go_sem, Int.reduceToNat, List.take_nil, Nat.zero_mul, Nat.reduceEqDiff, Nat.reduceAdd, Nat.reduceLT, Nat.reduceLeDiff, Nat.reduceMul, ↓reduceIte, reduceCtorEq]
    refine laws_toIntS_ (by omega) (Rd.own rfl) fun _ => ?_
    simp only [go_sem, Int.reduceToNat, List.take_nil, Nat.zero_mul, Nat.reduceEqDiff, Nat.reduceAdd, Nat.reduceLT, Nat.reduceLeDiff, Nat.reduceMul, ↓reduceIte, reduceCtorEq]
    refine laws_toJobS_ (by omega) (Rd.own rfl) fun _ => ?_
    simp only [go_sem, Int.reduceToNat, List.take_nil, Nat.zero_mul, Nat.reduceEqDiff, Nat.reduceAdd, Nat.reduceLT, Nat.reduceLeDiff, Nat.reduceMul, ↓reduceIte, reduceCtorEq]
    refine impl_RunJitter_ (S := S) (J := J) (O := O) (L := L) (by omega) (by omega) (by omega) (by omega) (Rd.own rfl) (Rd.own rfl) (Rd.own rfl) (Rd.own rfl) (fun _ => ?_) fun h => absurd h hv
    simp only [go_sem, Int.reduceToNat, List.take_nil, Nat.zero_mul, Nat.reduceEqDiff, Nat.reduceAdd, Nat.reduceLT, Nat.reduceLeDiff, Nat.reduceMul, ↓reduceIte, reduceCtorEq]
    refine eqn (by simp) ?_
    simp only [not_true_eq_false, not_false_eq_true, decide_true, decide_false, Bool.not_true, Bool.not_false, false_implies, true_implies, and_true, true_and, Bool.false_eq_true, Bool.true_eq_false, implies_true, Bool.not_not, Classical.not_not, go_sem, Int.reduceToNat, List.take_nil, Nat.zero_mul, Nat.reduceEqDiff, Nat.reduceAdd, Nat.reduceLT, Nat.reduceLeDiff, Nat.reduceMul, ↓reduceIte, reduceCtorEq]
    refine held (by simp) ?_
    simp only [not_true_eq_false, not_false_eq_true, decide_true, decide_false, Bool.not_true, Bool.not_false, false_implies, true_implies, and_true, true_and, Bool.false_eq_true, Bool.true_eq_false, implies_true, Bool.not_not, Classical.not_not, go_sem, Int.reduceToNat, List.take_nil, Nat.zero_mul, Nat.reduceEqDiff, Nat.reduceAdd, Nat.reduceLT, Nat.reduceLeDiff, Nat.reduceMul, ↓reduceIte, reduceCtorEq]
    refine ⟨fun hbad => absurd hbad (by omega), fun _ => ?_⟩
    exact Fin.plain rfl

theorem c_FnExactRunJitter (S : List Task) (c : Nat) (J : List Int) (cj : Nat) (O : List Int) (co : Nat) (L : List Job) (c' : Nat) (_ : ∀ x ∈ S, True) (y : S.length * 24 ≤ 140737488351232) (_ : S.length ≤ c) (_ : ∀ x ∈ J, fits .i64 x) (_ : J.length * 8 ≤ 140737488351232) (_ : J.length ≤ cj)
    (_ : ∀ x ∈ O, fits .i64 x) (_ : O.length * 8 ≤ 140737488351232) (_ : O.length ≤ co) (_ : ∀ x ∈ L, True) (z : L.length * 32 ≤ 140737488351232) (_ : L.length ≤ c') :
    CallWp Try.prog n_laws_FnExactRunJitter [.sl 0 0 S.length c, .sl 1 0 J.length cj, .sl 2 0 O.length co, .sl 3 0 L.length c'] [.ro (encTask.row S), .ro (encInt.row J), .ro (encInt.row O), .ro (encJob.row L)] (fun x _ => x = .b true) := laws_FnExactRunJitter0 S J O L (by omega) (by omega) c cj co c'
end Go.Proofs.Ytdmoafmgeipenaa
