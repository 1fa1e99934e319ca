/- The law FnRunEdf answers true: over the abstract heap. -/
import Derived.Test.YtdmoafmgeipenaaV1
namespace Go.Proofs.Ytdmoafmgeipenaa
open Go.Abs Go.Ds
set_option linter.unusedSimpArgs false
set_option linter.unusedVariables false
set_option maxRecDepth 20000
set_option maxHeartbeats 2000000

theorem laws_ticks0 (R : List Int) (x : Int) (hs : R.length ≤ 1099511627776) (c : Nat) : CallWp Try.prog n_laws_ticks [.sl 0 0 R.length c, .i .i64 x] [.ro (encInt.row R)] (fun v σ => v = .i .i64 (R.count x : Nat) ∧ σ = [.ro (encInt.row R)]) := by
  refine call_laws_ticks (by simp) ?_
  simp only [c_laws_ticks, go_sem, Int.reduceToNat, List.take_nil, Nat.zero_mul, Nat.reduceEqDiff, Nat.reduceAdd, Nat.reduceLT, Nat.reduceLeDiff, Nat.reduceMul, ↓reduceIte, reduceCtorEq]
  refine loop_count R.length (fun k => ⟨[(0, .sl 0 0 R.length c), (1, .i .i64 x), (5, .i .i64 ((R.take k).count x : Nat)), (6, .i .i64 k)], [.ro (encInt.row R)]⟩) (fun _ => True) trivial (Wk.keep (by simp [look_cons])) fun k hk _ => ?_
  simp only [l0_laws_ticks, go_sem, Int.reduceToNat, List.take_nil, Nat.zero_mul, Nat.reduceEqDiff, Nat.reduceAdd, Nat.reduceLT, Nat.reduceLeDiff, Nat.reduceMul, ↓reduceIte, reduceCtorEq]
  refine ⟨fun h => ?_, fun h => ?_⟩
  · have hc : (R.take k).count x ≤ k := by
      have := List.count_le_length (a := x) (l := R.take k)
      rw [List.length_take] at this; omega
    have e : (R.take (k + 1)).count x = (R.take k).count x + if R[k] = x then 1 else 0 := by
      rw [List.take_succ_eq_append_getElem h, List.count_append]
      simp [List.count_cons]
    simp only [rdI h, lenI, go_sem, Int.reduceToNat, List.take_nil, Nat.zero_mul, Nat.reduceEqDiff, Nat.reduceAdd, Nat.reduceLT, Nat.reduceLeDiff, Nat.reduceMul, ↓reduceIte, reduceCtorEq]
    refine ⟨by omega, by omega, fun h1 => ⟨by omega, by omega, h, ?_⟩, fun h1 => ⟨by omega, h, ?_⟩⟩
    · rw [e, if_pos h1]; exact Wk.keep (by simp [look_cons])
    · rw [e, if_neg h1]; exact Wk.keep (by simp [look_cons])
  · have ek : k = R.length := by omega
    subst ek
    rw [List.take_length]
    exact Fin.plain ⟨rfl, rfl⟩
theorem laws_ticks_ {R : List Int} (x : Int) (hs : R.length ≤ 1099511627776) {v : AV} {σ : List AB} (h : Rd encInt σ v R) {K : AV → List AB → Prop} (hk : K (.i .i64 (R.count x : Nat)) σ) : CallWp Try.prog n_laws_ticks [v, .i .i64 x] σ K :=
  call_rds _ (rds1 h.r) (fun c => [.sl 0 0 R.length (c 0), .i .i64 x]) (fun c => laws_ticks0 R x hs (c 0)) (fun ν c h => ⟨h.1, .inl rfl, trivial⟩) (fun _ => rfl) rfl hk

theorem laws_FnRunEdf0 (C : List Nat) (hC : ∀ x ∈ C, x < 256) (c : Nat) (hc : C.length ≤ c) : CallWp Try.prog n_laws_FnRunEdf [.sl 0 0 C.length c] [.ro (encByte.row C)] (fun x _ => x = .b true) := by
  refine call_laws_FnRunEdf (by simp) ?_
  simp only [c_laws_FnRunEdf, go_sem, Int.reduceToNat, List.take_nil, Nat.zero_mul, Nat.reduceEqDiff, Nat.reduceAdd, Nat.reduceLT, Nat.reduceLeDiff, Nat.reduceMul, ↓reduceIte, reduceCtorEq]
  refine ⟨fun h => Fin.plain rfl, fun h => ?_⟩
  refine (spec_DrawRunEdf0 C hC c hc).mono ?_
  rintro x σ' _ ⟨S, L, cap, cap', rfl, rfl, ⟨hS8, hSw⟩, hL62, hLw⟩
  simp only [go_sem, Int.reduceToNat, List.take_nil, Nat.zero_mul, Nat.reduceEqDiff, Nat.reduceAdd, Nat.reduceLT, Nat.reduceLeDiff, Nat.reduceMul, ↓reduceIte, reduceCtorEq]
  have hR := edfRun_length L
  have hF := edfFin_length L
  by_cases hv : jobsLegal S L
  · refine impl_RunEdf_ (S := S) (L := L) (by omega) (by omega) (Rd.own rfl) (Rd.own rfl) (fun hno => absurd hv hno) (fun _ c1 c2 => ?_)
    simp only [go_sem, Int.reduceToNat, List.take_nil, Nat.zero_mul, Nat.reduceEqDiff, Nat.reduceAdd, Nat.reduceLT, Nat.reduceLeDiff, Nat.reduceMul, ↓reduceIte, reduceCtorEq]
    refine spec_RunEdf_ (S := S) (L := L) (by omega) (by omega) (Rd.own rfl) (Rd.own rfl) (fun hno => absurd hv hno) (fun _ => ?_)
    rintro x τ (⟨hno, _⟩ | ⟨_, d1, d2, ⟨hne, rfl, rfl⟩ | ⟨hne, rfl, rfl⟩⟩)
    · exact absurd trivial hno
    all_goals
      simp only [go_sem, Int.reduceToNat, List.take_nil, Nat.zero_mul, Nat.reduceEqDiff, Nat.reduceAdd, Nat.reduceLT, Nat.reduceLeDiff, Nat.reduceMul, ↓reduceIte, reduceCtorEq]
      refine laws_sameSchedule_ (X1 := edfRun L) (Y1 := edfFin L) (X2 := edfRun L) (Y2 := edfFin L) (Rd.len' rfl hR) (Rd.len' rfl hF) (Rd.len' rfl hR) (by first | exact Rd.own rfl | (rw [hne]; exact Rd.none (by simp))) (by omega) (by omega) ?_
      simp only [not_true_eq_false, not_false_eq_true, decide_true, decide_false, Bool.not_true, Bool.not_false, false_implies, true_implies, and_true, true_and, Bool.false_eq_true, Bool.true_eq_false, implies_true, Bool.not_not, Classical.not_not, go_sem, Int.reduceToNat, List.take_nil, Nat.zero_mul, Nat.reduceEqDiff, Nat.reduceAdd, Nat.reduceLT, Nat.reduceLeDiff, Nat.reduceMul, ↓reduceIte, reduceCtorEq]
      refine spec_JobsLegal_ (S := S) (L := L) (by omega) (by omega) (Rd.own rfl) (Rd.own rfl) ?_
      simp only [hv, not_true_eq_false, not_false_eq_true, decide_true, decide_false, Bool.not_true, Bool.not_false, false_implies, true_implies, and_true, true_and, Bool.false_eq_true, Bool.true_eq_false, implies_true, Bool.not_not, Classical.not_not, go_sem, Int.reduceToNat, List.take_nil, Nat.zero_mul, Nat.reduceEqDiff, Nat.reduceAdd, Nat.reduceLT, Nat.reduceLeDiff, Nat.reduceMul, ↓reduceIte, reduceCtorEq]
      refine ⟨fun _ => ?_, fun h => absurd rfl h⟩
      refine loop_count 120 (fun k => ⟨[(4, .sl 2 0 L.length cap'), (5, .p 5 0), (6, .i .i64 k)], [.ro (encByte.row C), .rw ty_impl_Task (encTask.row S) (cap * 3), .rw ty_impl_Job (encJob.row L) (cap' * 4), .rw ty_int (encInt.row (edfRun L)) c1, .rw ty_int (encInt.row (edfFin L)) c2, .rw ty_impl_Schedule [.sl 3 0 120 c1, .sl 4 0 L.length c2] 2]⟩)
        (fun _ => True) trivial (Wk.pick [0, 1, 2, 3, 4, 5]) fun k hk _ => ?_
      simp only [l1_laws_FnRunEdf, not_true_eq_false, not_false_eq_true, decide_true, decide_false, Bool.not_true, Bool.not_false, false_implies, true_implies, and_true, true_and, Bool.false_eq_true, Bool.true_eq_false, implies_true, Bool.not_not, Classical.not_not, go_sem, Int.reduceToNat, List.take_nil, Nat.zero_mul, Nat.reduceEqDiff, Nat.reduceAdd, Nat.reduceLT, Nat.reduceLeDiff, Nat.reduceMul, ↓reduceIte, reduceCtorEq]
      refine ⟨fun hl => ?_, fun hl => ?_⟩
      · have hkR : k < (edfRun L).length := by omega
        rcases edf_tick hv (show k < 120 by omega) hkR with e | ⟨n, hn, hnF, e, f1, f2⟩
        · simp only [rdI hkR, e, lenI, hR, hF, not_true_eq_false, not_false_eq_true, decide_true, decide_false, Bool.not_true, Bool.not_false, false_implies, true_implies, and_true, true_and, Bool.false_eq_true, Bool.true_eq_false, implies_true, Bool.not_not, Classical.not_not, go_sem, Int.reduceToNat, List.take_nil, Nat.zero_mul, Nat.reduceEqDiff, Nat.reduceAdd, Nat.reduceLT, Nat.reduceLeDiff, Nat.reduceMul, ↓reduceIte, reduceCtorEq]
          repeat' first | omega | (exfalso; omega) | exact Wk.pick [0, 1, 2, 3, 4, 5] | refine ⟨?_, ?_⟩ | intro _
        · simp only [rdI hkR, e, lenI, hR, hF, Int.toNat_natCast, rdJ1 hn, rdI hnF, lenJ, not_true_eq_false, not_false_eq_true, decide_true, decide_false, Bool.not_true, Bool.not_false, false_implies, true_implies, and_true, true_and, Bool.false_eq_true, Bool.true_eq_false, implies_true, Bool.not_not, Classical.not_not, go_sem, Int.reduceToNat, List.take_nil, Nat.zero_mul, Nat.reduceEqDiff, Nat.reduceAdd, Nat.reduceLT, Nat.reduceLeDiff, Nat.reduceMul, ↓reduceIte, reduceCtorEq]
          repeat' first | omega | (exfalso; omega) | exact Wk.pick [0, 1, 2, 3, 4, 5] | refine ⟨?_, ?_⟩ | intro _
      · refine loop_count L.length (fun k => ⟨[(4, .sl 2 0 L.length cap'), (5, .p 5 0), (8, .i .i64 k)], [.ro (encByte.row C), .rw ty_impl_Task (encTask.row S) (cap * 3), .rw ty_impl_Job (encJob.row L) (cap' * 4), .rw ty_int (encInt.row (edfRun L)) c1, .rw ty_int (encInt.row (edfFin L)) c2, .rw ty_impl_Schedule [.sl 3 0 120 c1, .sl 4 0 L.length c2] 2]⟩)
          (fun _ => True) trivial (Wk.pick [0, 1, 2, 3, 4, 5]) fun k hk _ => ?_
        simp only [l0_laws_FnRunEdf, not_true_eq_false, not_false_eq_true, decide_true, decide_false, Bool.not_true, Bool.not_false, false_implies, true_implies, and_true, true_and, Bool.false_eq_true, Bool.true_eq_false, implies_true, Bool.not_not, Classical.not_not, go_sem, Int.reduceToNat, List.take_nil, Nat.zero_mul, Nat.reduceEqDiff, Nat.reduceAdd, Nat.reduceLT, Nat.reduceLeDiff, Nat.reduceMul, ↓reduceIte, reduceCtorEq]
        refine ⟨fun hl => ?_, fun hl => Fin.plain rfl⟩
        refine laws_ticks_ (k : Int) (by omega) (Rd.len' rfl hR) ?_
        have hkF : k < (edfFin L).length := by omega
        have hrw := legal_row hv hl
        rcases edf_job hv hl hkF with ⟨e, f1⟩ | ⟨f, hf, e, f1, f2⟩
        · simp only [rdI hkF, rdJ3 hl, e, lenI, lenJ, hR, hF, not_true_eq_false, not_false_eq_true, decide_true, decide_false, Bool.not_true, Bool.not_false, false_implies, true_implies, and_true, true_and, Bool.false_eq_true, Bool.true_eq_false, implies_true, Bool.not_not, Classical.not_not, go_sem, Int.reduceToNat, List.take_nil, Nat.zero_mul, Nat.reduceEqDiff, Nat.reduceAdd, Nat.reduceLT, Nat.reduceLeDiff, Nat.reduceMul, ↓reduceIte, reduceCtorEq]
          repeat' first | omega | (exfalso; omega) | exact Wk.pick [0, 1, 2, 3, 4, 5] | refine ⟨?_, ?_⟩ | intro _
        · have hfn : ((f : Int) + 1 - 1).toNat = f := by omega
          simp only [rdI hkF, rdJ3 hl, e, f1, f2, hfn, rdI hf, lenI, lenJ, hR, hF, not_true_eq_false, not_false_eq_true, decide_true, decide_false, Bool.not_true, Bool.not_false, false_implies, true_implies, and_true, true_and, Bool.false_eq_true, Bool.true_eq_false, implies_true, Bool.not_not, Classical.not_not, go_sem, Int.reduceToNat, List.take_nil, Nat.zero_mul, Nat.reduceEqDiff, Nat.reduceAdd, Nat.reduceLT, Nat.reduceLeDiff, Nat.reduceMul, ↓reduceIte, reduceCtorEq]
          repeat' first | omega | (exfalso; omega) | exact Wk.pick [0, 1, 2, 3, 4, 5] | refine ⟨?_, ?_⟩ | intro _
  · refine impl_RunEdf_ (S := S) (L := L) (by omega) (by omega) (Rd.own rfl) (Rd.own rfl) (fun _ => ?_) (fun h => absurd h hv)
    simp only [go_sem, Int.reduceToNat, List.take_nil, Nat.zero_mul, Nat.reduceEqDiff, Nat.reduceAdd, Nat.reduceLT, Nat.reduceLeDiff, Nat.reduceMul, ↓reduceIte, reduceCtorEq]
    refine spec_RunEdf_ (S := S) (L := L) (by omega) (by omega) (Rd.own rfl) (Rd.own rfl) (fun _ => ?_) (fun h => absurd h hv)
    simp only [go_sem, Int.reduceToNat, List.take_nil, Nat.zero_mul, Nat.reduceEqDiff, Nat.reduceAdd, Nat.reduceLT, Nat.reduceLeDiff, Nat.reduceMul, ↓reduceIte, reduceCtorEq]
    refine laws_sameSchedule_ (X1 := []) (Y1 := []) (X2 := []) (Y2 := []) (Rd.none (by simp)) (Rd.none (by simp)) (Rd.none (by simp)) (Rd.none (by simp)) (by simp) (by simp) ?_
    simp only [not_true_eq_false, not_false_eq_true, decide_true, decide_false, Bool.not_true, Bool.not_false, false_implies, true_implies, and_true, true_and, Bool.false_eq_true, Bool.true_eq_false, implies_true, Bool.not_not, Classical.not_not, go_sem, Int.reduceToNat, List.take_nil, Nat.zero_mul, Nat.reduceEqDiff, Nat.reduceAdd, Nat.reduceLT, Nat.reduceLeDiff, Nat.reduceMul, ↓reduceIte, reduceCtorEq]
    refine spec_JobsLegal_ (S := S) (L := L) (by omega) (by omega) (Rd.own rfl) (Rd.own rfl) ?_
    simp only [hv, not_true_eq_false, not_false_eq_true, decide_true, decide_false, Bool.not_true, Bool.not_false, false_implies, true_implies, and_true, true_and, Bool.false_eq_true, Bool.true_eq_false, implies_true, Bool.not_not, Classical.not_not, go_sem, Int.reduceToNat, List.take_nil, Nat.zero_mul, Nat.reduceEqDiff, Nat.reduceAdd, Nat.reduceLT, Nat.reduceLeDiff, Nat.reduceMul, ↓reduceIte, reduceCtorEq]
    refine ⟨by omega, fun _ => laws_alive_ ?_, fun h => absurd (by decide) h⟩
    simp only [not_true_eq_false, not_false_eq_true, decide_true, decide_false, Bool.not_true, Bool.not_false, false_implies, true_implies, and_true, true_and, Bool.false_eq_true, Bool.true_eq_false, implies_true, Bool.not_not, Classical.not_not, go_sem, Int.reduceToNat, List.take_nil, Nat.zero_mul, Nat.reduceEqDiff, Nat.reduceAdd, Nat.reduceLT, Nat.reduceLeDiff, Nat.reduceMul, ↓reduceIte, reduceCtorEq]
    exact Fin.plain rfl

theorem c_FnRunEdf (C : List Nat) (c : Nat) (hC : ∀ x ∈ C, x < 256) (_ : C.length * 1 ≤ 140737488351232) (hc : C.length ≤ c) : CallWp Try.prog n_laws_FnRunEdf [.sl 0 0 C.length c] [.ro (encByte.row C)] (fun x _ => x = .b true) := laws_FnRunEdf0 C hC c hc
end Go.Proofs.Ytdmoafmgeipenaa
