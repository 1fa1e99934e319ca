/- The laws FnResourcesNone and FnResourcesDone answer true: over the abstract heap. -/
import Derived.Test.YtnlciginmeebhaaS37
import Derived.Test.YtnlciginmeebhaaV2
namespace Go.Proofs.Ytnlciginmeebhaa
open Go.Abs Go.Ds
set_option linter.unusedSimpArgs false
set_option linter.unusedVariables false
set_option maxRecDepth 20000
set_option maxHeartbeats 2000000

theorem srpRun_length (S : List Task) (X : List Sec) (L : List Job) : (srpRun S X L).length = 120 := (simU_lens 120).2.2
theorem srpFin_length (S : List Task) (X : List Sec) (L : List Job) : (srpFin S X L).length = L.length := (simU_lens 120).2.1

/-- What ran in a tick. -/
theorem srp_tick {S : List Task} {X : List Sec} {L : List Job} (hv : jobsLegal S L) {k : Nat} (hk : k < 120) (h : k < (srpRun S X L).length) : (srpRun S X L)[k] = -1 ∨ ∃ n : Nat, ∃ hn : n < L.length, (srpRun S X L)[k] = n ∧ L[n].R ≤ k := by
  have e := simU_at (L := L) (pick := srpPick S X L) hk
  change gI (srpRun S X L) k = _ at e
  rw [gI_row h] at e
  rcases srp_fair S X L k (simU L (srpPick S X L) k).done with e1 | ⟨n, e1, hn, hr⟩
  · exact .inl (e.trans e1)
  · refine .inr ⟨n, hn, e.trans e1, ?_⟩
    simp only [readyJ, decide_eq_true_eq, List.getD_eq_getElem?_getD, List.getElem?_eq_getElem hn, Option.getD_some] at hr
    exact hr.1

/-- What became of a job. -/
theorem srp_job {S : List Task} {X : List Sec} {L : List Job} (hv : jobsLegal S L) {n : Nat} (hn : n < L.length) (hf : n < (srpFin S X L).length) : ((srpFin S X L)[n] = -1 ∧ ((srpRun S X L).count (n : Int) : Int) < L[n].E) ∨
    ∃ f : Nat, ∃ hr : f < (srpRun S X L).length, (srpFin S X L)[n] = (f : Int) + 1 ∧ ((srpRun S X L).count (n : Int) : Int) = L[n].E ∧ (srpRun S X L)[f] = n := by
  have hi := runInv (srp_fair S X L) (legal_E hv) 120 n hn
  have h3 := hi.cnt
  have gE : (L.getD n default).E = L[n].E := by simp [List.getD_eq_getElem?_getD, hn]
  rcases hi.fin with ⟨h1, h2⟩ | ⟨f, h1, h2, h4, h5, h6, _⟩
  · rw [show gI (simU L (srpPick S X L) 120).fin n = (srpFin S X L)[n] from gI_row hf] at h1
    refine .inl ⟨h1, ?_⟩
    change ((srpRun S X L).count (n : Int) : Int) = _ at h3
    omega
  · rw [show gI (simU L (srpPick S X L) 120).fin n = (srpFin S X L)[n] from gI_row hf] at h1
    change ((srpRun S X L).count (n : Int) : Int) = _ at h3
    have hr : f - 1 < (srpRun S X L).length := by rw [srpRun_length]; omega
    refine .inr ⟨f - 1, hr, by omega, by omega, ?_⟩
    rw [← h6]; exact (gI_row hr).symm

theorem laws_FnResourcesDone0 (C : List Nat) (hC : ∀ x ∈ C, x < 256) (c : Nat) (hc : C.length ≤ c) : CallWp Try.prog n_laws_FnResourcesDone [.sl 0 0 C.length c] [.ro (encByte.row C)] (fun x _ => x = .b true) := by
  refine call_laws_FnResourcesDone (by simp) ?_
  simp only [c_laws_FnResourcesDone, go_sem, Int.reduceToNat, List.take_nil, Nat.zero_mul, Nat.reduceEqDiff, Nat.reduceAdd, Nat.reduceLT, Nat.reduceLeDiff, Nat.reduceMul, ↓reduceIte, reduceCtorEq]
  refine ⟨fun h => Fin.plain rfl, fun h => ?_⟩
  refine (spec_DrawRunResources0 C hC c hc).mono ?_
  rintro x σ' _ ⟨S, X, L, cap, cap2, cap', rfl, rfl, hS8, hX9, hL62⟩
  simp only [go_sem, Int.reduceToNat, List.take_nil, Nat.zero_mul, Nat.reduceEqDiff, Nat.reduceAdd, Nat.reduceLT, Nat.reduceLeDiff, Nat.reduceMul, ↓reduceIte, reduceCtorEq]
  have hR := srpRun_length S X L
  have hF := srpFin_length S X L
  by_cases hok : resOk S X L
  · have hv := hok.2
    refine impl_RunResources_ (S := S) (X := X) (L := L) (by omega) (by omega) (by omega) (Rd.own rfl) (Rd.own rfl) (Rd.own rfl) (fun hno => absurd hok hno) (fun _ c1 c2 => ?_)
    simp only [go_sem, Int.reduceToNat, List.take_nil, Nat.zero_mul, Nat.reduceEqDiff, Nat.reduceAdd, Nat.reduceLT, Nat.reduceLeDiff, Nat.reduceMul, ↓reduceIte, reduceCtorEq]
    refine spec_RunResources_ (S := S) (X := X) (L := L) (by omega) (by omega) (by omega) (Rd.own rfl) (Rd.own rfl) (Rd.own rfl) (fun hno => absurd hok hno) (fun _ => ?_)
    rintro x τ (⟨hno, _⟩ | ⟨_, d1, d2, ⟨hne, rfl, rfl⟩ | ⟨hne, rfl, rfl⟩⟩)
    · exact absurd trivial hno
    all_goals
      simp only [go_sem, Int.reduceToNat, List.take_nil, Nat.zero_mul, Nat.reduceEqDiff, Nat.reduceAdd, Nat.reduceLT, Nat.reduceLeDiff, Nat.reduceMul, ↓reduceIte, reduceCtorEq]
      refine laws_sameSchedule_ (X1 := srpRun S X L) (Y1 := srpFin S X L) (X2 := srpRun S X L) (Y2 := srpFin S X L) (Rd.owl rfl hR) (Rd.owl rfl hF) (Rd.owl rfl hR) (by first | exact Rd.own rfl | (rw [hne]; exact Rd.none (by simp))) (by omega) (by omega) ?_
      simp only [not_true_eq_false, not_false_eq_true, decide_true, decide_false, Bool.not_true, Bool.not_false, false_implies, true_implies, and_true, true_and, Bool.false_eq_true, Bool.true_eq_false, implies_true, Bool.not_not, Classical.not_not, go_sem, Int.reduceToNat, List.take_nil, Nat.zero_mul, Nat.reduceEqDiff, Nat.reduceAdd, Nat.reduceLT, Nat.reduceLeDiff, Nat.reduceMul, ↓reduceIte, reduceCtorEq]
      refine ⟨fun h => absurd rfl h, fun _ => ?_⟩
      refine loop_count 120 (fun k => ⟨[(5, .sl 3 0 L.length cap'), (6, .p 6 0), (7, .i .i64 k)], [.ro (encByte.row C), .rw ty_impl_Task (encTask.row S) (cap * 3), .rw ty_impl_Section (encSec.row X) (cap2 * 3), .rw ty_impl_Job (encJob.row L) (cap' * 4), .rw ty_int (encInt.row (srpRun S X L)) c1, .rw ty_int (encInt.row (srpFin S X L)) c2, .rw ty_impl_Schedule [.sl 4 0 120 c1, .sl 5 0 L.length c2] 2]⟩)
        (fun _ => True) trivial (Wk.pick [0, 1, 2, 3, 4, 5, 6]) fun k hk _ => ?_
      simp only [l1_laws_FnResourcesDone, not_true_eq_false, not_false_eq_true, decide_true, decide_false, Bool.not_true, Bool.not_false, false_implies, true_implies, and_true, true_and, Bool.false_eq_true, Bool.true_eq_false, implies_true, Bool.not_not, Classical.not_not, go_sem, Int.reduceToNat, List.take_nil, Nat.zero_mul, Nat.reduceEqDiff, Nat.reduceAdd, Nat.reduceLT, Nat.reduceLeDiff, Nat.reduceMul, ↓reduceIte, reduceCtorEq]
      refine ⟨fun hl => ?_, fun hl => ?_⟩
      · have hkR : k < (srpRun S X L).length := by omega
        rcases srp_tick hv (show k < 120 by omega) hkR with e | ⟨n, hn, e, f1⟩
        · simp only [rdI hkR, e, lenI, hR, hF, not_true_eq_false, not_false_eq_true, decide_true, decide_false, Bool.not_true, Bool.not_false, false_implies, true_implies, and_true, true_and, Bool.false_eq_true, Bool.true_eq_false, implies_true, Bool.not_not, Classical.not_not, go_sem, Int.reduceToNat, List.take_nil, Nat.zero_mul, Nat.reduceEqDiff, Nat.reduceAdd, Nat.reduceLT, Nat.reduceLeDiff, Nat.reduceMul, ↓reduceIte, reduceCtorEq]
          repeat' first | omega | (exfalso; omega) | exact Wk.pick [0, 1, 2, 3, 4, 5, 6] | refine ⟨?_, ?_⟩ | intro _
        · simp only [rdI hkR, e, lenI, hR, hF, Int.toNat_natCast, rdJ1 hn, lenJ, not_true_eq_false, not_false_eq_true, decide_true, decide_false, Bool.not_true, Bool.not_false, false_implies, true_implies, and_true, true_and, Bool.false_eq_true, Bool.true_eq_false, implies_true, Bool.not_not, Classical.not_not, go_sem, Int.reduceToNat, List.take_nil, Nat.zero_mul, Nat.reduceEqDiff, Nat.reduceAdd, Nat.reduceLT, Nat.reduceLeDiff, Nat.reduceMul, ↓reduceIte, reduceCtorEq]
          repeat' first | omega | (exfalso; omega) | exact Wk.pick [0, 1, 2, 3, 4, 5, 6] | refine ⟨?_, ?_⟩ | intro _
      · refine loop_count L.length (fun k => ⟨[(5, .sl 3 0 L.length cap'), (6, .p 6 0), (8, .i .i64 k)], [.ro (encByte.row C), .rw ty_impl_Task (encTask.row S) (cap * 3), .rw ty_impl_Section (encSec.row X) (cap2 * 3), .rw ty_impl_Job (encJob.row L) (cap' * 4), .rw ty_int (encInt.row (srpRun S X L)) c1, .rw ty_int (encInt.row (srpFin S X L)) c2, .rw ty_impl_Schedule [.sl 4 0 120 c1, .sl 5 0 L.length c2] 2]⟩)
          (fun _ => True) trivial (Wk.pick [0, 1, 2, 3, 4, 5, 6]) fun k hk _ => ?_
        simp only [l0_laws_FnResourcesDone, not_true_eq_false, not_false_eq_true, decide_true, decide_false, Bool.not_true, Bool.not_false, false_implies, true_implies, and_true, true_and, Bool.false_eq_true, Bool.true_eq_false, implies_true, Bool.not_not, Classical.not_not, go_sem, Int.reduceToNat, List.take_nil, Nat.zero_mul, Nat.reduceEqDiff, Nat.reduceAdd, Nat.reduceLT, Nat.reduceLeDiff, Nat.reduceMul, ↓reduceIte, reduceCtorEq]
        refine ⟨fun hl => ?_, fun hl => Fin.plain rfl⟩
        refine laws_ticks_ (k : Int) (by omega) (Rd.owl rfl hR) ?_
        have hkF : k < (srpFin S X L).length := by omega
        have hrw := legal_row hv hl
        rcases srp_job hv hl hkF with ⟨e, f1⟩ | ⟨f, hf, e, f1, f2⟩
        · simp only [rdI hkF, rdJ3 hl, e, lenI, lenJ, hR, hF, not_true_eq_false, not_false_eq_true, decide_true, decide_false, Bool.not_true, Bool.not_false, false_implies, true_implies, and_true, true_and, Bool.false_eq_true, Bool.true_eq_false, implies_true, Bool.not_not, Classical.not_not, go_sem, Int.reduceToNat, List.take_nil, Nat.zero_mul, Nat.reduceEqDiff, Nat.reduceAdd, Nat.reduceLT, Nat.reduceLeDiff, Nat.reduceMul, ↓reduceIte, reduceCtorEq]
          repeat' first | omega | (exfalso; omega) | exact Wk.pick [0, 1, 2, 3, 4, 5, 6] | refine ⟨?_, ?_⟩ | intro _
        · have hfn : ((f : Int) + 1 - 1).toNat = f := by omega
          simp only [rdI hkF, rdJ3 hl, e, f1, f2, hfn, rdI hf, lenI, lenJ, hR, hF, not_true_eq_false, not_false_eq_true, decide_true, decide_false, Bool.not_true, Bool.not_false, false_implies, true_implies, and_true, true_and, Bool.false_eq_true, Bool.true_eq_false, implies_true, Bool.not_not, Classical.not_not, go_sem, Int.reduceToNat, List.take_nil, Nat.zero_mul, Nat.reduceEqDiff, Nat.reduceAdd, Nat.reduceLT, Nat.reduceLeDiff, Nat.reduceMul, ↓reduceIte, reduceCtorEq]
          repeat' first | omega | (exfalso; omega) | exact Wk.pick [0, 1, 2, 3, 4, 5, 6] | refine ⟨?_, ?_⟩ | intro _
  · refine impl_RunResources_ (S := S) (X := X) (L := L) (by omega) (by omega) (by omega) (Rd.own rfl) (Rd.own rfl) (Rd.own rfl) (fun _ => ?_) (fun h => absurd h hok)
    simp only [go_sem, Int.reduceToNat, List.take_nil, Nat.zero_mul, Nat.reduceEqDiff, Nat.reduceAdd, Nat.reduceLT, Nat.reduceLeDiff, Nat.reduceMul, ↓reduceIte, reduceCtorEq]
    refine spec_RunResources_ (S := S) (X := X) (L := L) (by omega) (by omega) (by omega) (Rd.own rfl) (Rd.own rfl) (Rd.own rfl) (fun _ => ?_) (fun h => absurd h hok)
    simp only [go_sem, Int.reduceToNat, List.take_nil, Nat.zero_mul, Nat.reduceEqDiff, Nat.reduceAdd, Nat.reduceLT, Nat.reduceLeDiff, Nat.reduceMul, ↓reduceIte, reduceCtorEq]
    refine laws_sameSchedule_ (X1 := []) (Y1 := []) (X2 := []) (Y2 := []) (Rd.none (by simp)) (Rd.none (by simp)) (Rd.none (by simp)) (Rd.none (by simp)) (by simp) (by simp) ?_
    simp only [not_true_eq_false, not_false_eq_true, decide_true, decide_false, Bool.not_true, Bool.not_false, false_implies, true_implies, and_true, true_and, Bool.false_eq_true, Bool.true_eq_false, implies_true, Bool.not_not, Classical.not_not, go_sem, Int.reduceToNat, List.take_nil, Nat.zero_mul, Nat.reduceEqDiff, Nat.reduceAdd, Nat.reduceLT, Nat.reduceLeDiff, Nat.reduceMul, ↓reduceIte, reduceCtorEq]
    refine ⟨fun _ => laws_alive_ ?_, fun h => absurd h (by decide)⟩
    simp only [not_true_eq_false, not_false_eq_true, decide_true, decide_false, Bool.not_true, Bool.not_false, false_implies, true_implies, and_true, true_and, Bool.false_eq_true, Bool.true_eq_false, implies_true, Bool.not_not, Classical.not_not, go_sem, Int.reduceToNat, List.take_nil, Nat.zero_mul, Nat.reduceEqDiff, Nat.reduceAdd, Nat.reduceLT, Nat.reduceLeDiff, Nat.reduceMul, ↓reduceIte, reduceCtorEq]
    exact Fin.plain rfl
theorem c_FnResourcesDone (C : List Nat) (c : Nat) (hC : ∀ x ∈ C, x < 256) (_ : C.length * 1 ≤ 140737488351232) (hc : C.length ≤ c) :
    CallWp Try.prog n_laws_FnResourcesDone [.sl 0 0 C.length c] [.ro (encByte.row C)] (fun x _ => x = .b true) := laws_FnResourcesDone0 C hC c hc

/-- No sections: nothing is ever held. -/
def noSec (n : Nat) : List Sec := List.replicate n ⟨0, 0, 0⟩
theorem noSec_ok {S : List Task} (hS : setOk S) : secsOk S (noSec S.length) := by
  refine ⟨hS, by simp [noSec], fun k hk => ?_⟩
  have e : gX (noSec S.length) k = ⟨0, 0, 0⟩ := by
    simp only [noSec, List.length_replicate] at hk
    simp [gX, noSec, List.getD_eq_getElem?_getD, hk]
  have hk' : k < S.length := by simpa [noSec] using hk
  have ht := hS.2 _ (List.getElem_mem hk')
  rw [e, gT_nat hk']
  unfold Task.ok at ht
  exact ⟨fun _ => ⟨rfl, rfl⟩, ⟨Int.le_refl _, by show (0 : Int) ≤ S[k].C; omega⟩, ⟨Int.le_refl _, by show (0 : Int) ≤ S[k].C - 0; omega⟩, Int.le_refl _, by show (0 : Int) ≤ 2; omega⟩
theorem noSec_pick {S : List Task} {L : List Job} (hL : jobsLegal S L) : srpPick S (noSec S.length) L = edfPick L := by
  funext now done
  have hsys : sysN S (noSec S.length) L (heldI (noSec S.length) L done now) L.length = 13 := by
    rcases Int.lt_or_le (sysN S (noSec S.length) L (heldI (noSec S.length) L done now) L.length) 13 with h | h
    · obtain ⟨i, hi, hh⟩ := sysN_held h
      unfold heldI at hh
      rw [Bool.and_eq_true, decide_eq_true_eq] at hh
      have hs : (jX (noSec S.length) L i).St = 0 ∧ (jX (noSec S.length) L i).Ln = 0 := by
        unfold jX gX noSec
        rw [List.getD_eq_getElem?_getD, List.getElem?_replicate]
        split <;> exact ⟨rfl, rfl⟩
      have := hh.2
      unfold inSec at this
      omega
    · have := sysN_13 S (noSec S.length) L (heldI (noSec S.length) L done now) L.length
      omega
  unfold srpPick
  rw [hsys]
  rcases edf_fair L now done with e | ⟨n, e, hn, _⟩
  · rw [if_pos (.inl (by omega))]
  · by_cases h : edfPick L now done < 0 ∨ 0 < gI done (edfPick L now done)
    · rw [if_pos h]
    · rw [if_neg h, if_pos]
      rw [e]
      have hm := hL.2.1.mem (List.getElem_mem hn)
      have t1 := gT_ok hL.1 hm.1.1 hm.1.2
      unfold Task.ok at t1
      unfold tD
      rw [Int.toNat_natCast, show L.getD n default = L[n] by simp [List.getD_eq_getElem?_getD, hn]]
      omega

theorem laws_FnResourcesNone0 (C : List Nat) (hC : ∀ x ∈ C, x < 256) (c : Nat) (hc : C.length ≤ c) : CallWp Try.prog n_laws_FnResourcesNone [.sl 0 0 C.length c] [.ro (encByte.row C)] (fun x _ => x = .b true) := by
  refine call_laws_FnResourcesNone (by simp) ?_
  simp only [c_laws_FnResourcesNone, go_sem, Int.reduceToNat, List.take_nil, Nat.zero_mul, Nat.reduceEqDiff, Nat.reduceAdd, Nat.reduceLT, Nat.reduceLeDiff, Nat.reduceMul, ↓reduceIte, reduceCtorEq]
  refine ⟨fun h => Fin.plain rfl, fun h => ?_⟩
  refine (spec_DrawRunResources0 C hC c hc).mono ?_
  rintro x σ' _ ⟨S, X, L, cap, cap2, cap', rfl, rfl, hS8, hX9, hL62⟩
  simp only [go_sem, Int.reduceToNat, List.take_nil, Nat.zero_mul, Nat.reduceEqDiff, Nat.reduceAdd, Nat.reduceLT, Nat.reduceLeDiff, Nat.reduceMul, ↓reduceIte, reduceCtorEq]
  have hR := srpRun_length S X L
  have hF := srpFin_length S X L
  have hR0 := edfRun_length L
  have hF0 := edfFin_length L
  have hrow : rep S.length [AV.i .i64 0, AV.i .i64 0, AV.i .i64 0] = encSec.row (noSec S.length) := encSec.rep (⟨0, 0, 0⟩ : Sec) _
  have hnl : (noSec S.length).length = S.length := by simp [noSec]
  by_cases hok : resOk S X L
  · refine impl_RunResources_ (S := S) (X := X) (L := L) (by omega) (by omega) (by omega) (Rd.own rfl) (Rd.own rfl) (Rd.own rfl) (fun hno => absurd hok hno) (fun _ c1 c2 => ?_)
    simp only [go_sem, Int.reduceToNat, List.take_nil, Nat.zero_mul, Nat.reduceEqDiff, Nat.reduceAdd, Nat.reduceLT, Nat.reduceLeDiff, Nat.reduceMul, ↓reduceIte, reduceCtorEq]
    refine spec_RunResources_ (S := S) (X := X) (L := L) (by omega) (by omega) (by omega) (Rd.own rfl) (Rd.own rfl) (Rd.own rfl) (fun hno => absurd hok hno) (fun _ => ?_)
    rintro x τ (⟨hno, _⟩ | ⟨_, d1, d2, ⟨hne, rfl, rfl⟩ | ⟨hne, rfl, rfl⟩⟩)
    · exact absurd trivial hno
    all_goals
      simp only [go_sem, Int.reduceToNat, List.take_nil, Nat.zero_mul, Nat.reduceEqDiff, Nat.reduceAdd, Nat.reduceLT, Nat.reduceLeDiff, Nat.reduceMul, ↓reduceIte, reduceCtorEq]
      refine laws_sameSchedule_ (X1 := srpRun S X L) (Y1 := srpFin S X L) (X2 := srpRun S X L) (Y2 := srpFin S X L) (Rd.owl rfl hR) (Rd.owl rfl hF) (Rd.owl rfl hR) (by first | exact Rd.own rfl | (rw [hne]; exact Rd.none (by simp))) (by omega) (by omega) ?_
      simp only [not_true_eq_false, not_false_eq_true, decide_true, decide_false, Bool.not_true, Bool.not_false, false_implies, true_implies, and_true, true_and, Bool.false_eq_true, Bool.true_eq_false, implies_true, Bool.not_not, Classical.not_not, go_sem, Int.reduceToNat, List.take_nil, Nat.zero_mul, Nat.reduceEqDiff, Nat.reduceAdd, Nat.reduceLT, Nat.reduceLeDiff, Nat.reduceMul, ↓reduceIte, reduceCtorEq]
      refine ⟨by omega, ?_⟩
      rw [hrow]
      refine impl_RunResources_ (S := S) (X := noSec S.length) (L := L) (by omega) (by omega) (by omega) (Rd.own rfl) (Rd.owl rfl hnl) (Rd.own rfl) (fun hno => absurd ⟨noSec_ok hok.1.1, hok.2⟩ hno) (fun _ c3 c4 => ?_)
      rw [show srpRun S (noSec S.length) L = edfRun L by unfold srpRun; rw [noSec_pick hok.2]; rfl, show srpFin S (noSec S.length) L = edfFin L by unfold srpFin; rw [noSec_pick hok.2]; rfl]
      simp only [not_true_eq_false, not_false_eq_true, decide_true, decide_false, Bool.not_true, Bool.not_false, false_implies, true_implies, and_true, true_and, Bool.false_eq_true, Bool.true_eq_false, implies_true, Bool.not_not, Classical.not_not, go_sem, Int.reduceToNat, List.take_nil, Nat.zero_mul, Nat.reduceEqDiff, Nat.reduceAdd, Nat.reduceLT, Nat.reduceLeDiff, Nat.reduceMul, ↓reduceIte, reduceCtorEq]
      refine impl_RunEdf_ (S := S) (L := L) (by omega) (by omega) (Rd.own rfl) (Rd.own rfl) (fun hno => absurd hok.2 hno) (fun _ c5 c6 => ?_)
      simp only [not_true_eq_false, not_false_eq_true, decide_true, decide_false, Bool.not_true, Bool.not_false, false_implies, true_implies, and_true, true_and, Bool.false_eq_true, Bool.true_eq_false, implies_true, Bool.not_not, Classical.not_not, go_sem, Int.reduceToNat, List.take_nil, Nat.zero_mul, Nat.reduceEqDiff, Nat.reduceAdd, Nat.reduceLT, Nat.reduceLeDiff, Nat.reduceMul, ↓reduceIte, reduceCtorEq]
      refine laws_sameSchedule_ (X1 := edfRun L) (Y1 := edfFin L) (X2 := edfRun L) (Y2 := edfFin L) (Rd.owl rfl hR0) (Rd.owl rfl hF0) (Rd.owl rfl hR0) (Rd.owl rfl hF0) (by omega) (by omega) ?_
      simp only [not_true_eq_false, not_false_eq_true, decide_true, decide_false, Bool.not_true, Bool.not_false, false_implies, true_implies, and_true, true_and, Bool.false_eq_true, Bool.true_eq_false, implies_true, Bool.not_not, Classical.not_not, go_sem, Int.reduceToNat, List.take_nil, Nat.zero_mul, Nat.reduceEqDiff, Nat.reduceAdd, Nat.reduceLT, Nat.reduceLeDiff, Nat.reduceMul, ↓reduceIte, reduceCtorEq]
      refine laws_alive_ ?_
      simp only [not_true_eq_false, not_false_eq_true, decide_true, decide_false, Bool.not_true, Bool.not_false, false_implies, true_implies, and_true, true_and, Bool.false_eq_true, Bool.true_eq_false, implies_true, Bool.not_not, Classical.not_not, go_sem, Int.reduceToNat, List.take_nil, Nat.zero_mul, Nat.reduceEqDiff, Nat.reduceAdd, Nat.reduceLT, Nat.reduceLeDiff, Nat.reduceMul, ↓reduceIte, reduceCtorEq]
      exact Fin.plain rfl
  · refine impl_RunResources_ (S := S) (X := X) (L := L) (by omega) (by omega) (by omega) (Rd.own rfl) (Rd.own rfl) (Rd.own rfl) (fun _ => ?_) (fun h => absurd h hok)
    simp only [go_sem, Int.reduceToNat, List.take_nil, Nat.zero_mul, Nat.reduceEqDiff, Nat.reduceAdd, Nat.reduceLT, Nat.reduceLeDiff, Nat.reduceMul, ↓reduceIte, reduceCtorEq]
    refine spec_RunResources_ (S := S) (X := X) (L := L) (by omega) (by omega) (by omega) (Rd.own rfl) (Rd.own rfl) (Rd.own rfl) (fun _ => ?_) (fun h => absurd h hok)
    simp only [go_sem, Int.reduceToNat, List.take_nil, Nat.zero_mul, Nat.reduceEqDiff, Nat.reduceAdd, Nat.reduceLT, Nat.reduceLeDiff, Nat.reduceMul, ↓reduceIte, reduceCtorEq]
    refine laws_sameSchedule_ (X1 := []) (Y1 := []) (X2 := []) (Y2 := []) (Rd.none (by simp)) (Rd.none (by simp)) (Rd.none (by simp)) (Rd.none (by simp)) (by simp) (by simp) ?_
    simp only [not_true_eq_false, not_false_eq_true, decide_true, decide_false, Bool.not_true, Bool.not_false, false_implies, true_implies, and_true, true_and, Bool.false_eq_true, Bool.true_eq_false, implies_true, Bool.not_not, Classical.not_not, go_sem, Int.reduceToNat, List.take_nil, Nat.zero_mul, Nat.reduceEqDiff, Nat.reduceAdd, Nat.reduceLT, Nat.reduceLeDiff, Nat.reduceMul, ↓reduceIte, reduceCtorEq]
    refine ⟨by omega, ?_⟩
    rw [hrow]
    by_cases hL : jobsLegal S L
    · refine impl_RunResources_ (S := S) (X := noSec S.length) (L := L) (by omega) (by omega) (by omega) (Rd.own rfl) (Rd.owl rfl hnl) (Rd.own rfl) (fun hno => absurd ⟨noSec_ok hL.1, hL⟩ hno) (fun _ c3 c4 => ?_)
      rw [show srpRun S (noSec S.length) L = edfRun L by unfold srpRun; rw [noSec_pick hL]; rfl, show srpFin S (noSec S.length) L = edfFin L by unfold srpFin; rw [noSec_pick hL]; rfl]
      simp only [not_true_eq_false, not_false_eq_true, decide_true, decide_false, Bool.not_true, Bool.not_false, false_implies, true_implies, and_true, true_and, Bool.false_eq_true, Bool.true_eq_false, implies_true, Bool.not_not, Classical.not_not, go_sem, Int.reduceToNat, List.take_nil, Nat.zero_mul, Nat.reduceEqDiff, Nat.reduceAdd, Nat.reduceLT, Nat.reduceLeDiff, Nat.reduceMul, ↓reduceIte, reduceCtorEq]
      refine impl_RunEdf_ (S := S) (L := L) (by omega) (by omega) (Rd.own rfl) (Rd.own rfl) (fun hno => absurd hL hno) (fun _ c5 c6 => ?_)
      simp only [not_true_eq_false, not_false_eq_true, decide_true, decide_false, Bool.not_true, Bool.not_false, false_implies, true_implies, and_true, true_and, Bool.false_eq_true, Bool.true_eq_false, implies_true, Bool.not_not, Classical.not_not, go_sem, Int.reduceToNat, List.take_nil, Nat.zero_mul, Nat.reduceEqDiff, Nat.reduceAdd, Nat.reduceLT, Nat.reduceLeDiff, Nat.reduceMul, ↓reduceIte, reduceCtorEq]
      refine laws_sameSchedule_ (X1 := edfRun L) (Y1 := edfFin L) (X2 := edfRun L) (Y2 := edfFin L) (Rd.owl rfl hR0) (Rd.owl rfl hF0) (Rd.owl rfl hR0) (Rd.owl rfl hF0) (by omega) (by omega) ?_
      simp only [not_true_eq_false, not_false_eq_true, decide_true, decide_false, Bool.not_true, Bool.not_false, false_implies, true_implies, and_true, true_and, Bool.false_eq_true, Bool.true_eq_false, implies_true, Bool.not_not, Classical.not_not, go_sem, Int.reduceToNat, List.take_nil, Nat.zero_mul, Nat.reduceEqDiff, Nat.reduceAdd, Nat.reduceLT, Nat.reduceLeDiff, Nat.reduceMul, ↓reduceIte, reduceCtorEq]
      refine laws_alive_ ?_
      simp only [not_true_eq_false, not_false_eq_true, decide_true, decide_false, Bool.not_true, Bool.not_false, false_implies, true_implies, and_true, true_and, Bool.false_eq_true, Bool.true_eq_false, implies_true, Bool.not_not, Classical.not_not, go_sem, Int.reduceToNat, List.take_nil, Nat.zero_mul, Nat.reduceEqDiff, Nat.reduceAdd, Nat.reduceLT, Nat.reduceLeDiff, Nat.reduceMul, ↓reduceIte, reduceCtorEq]
      exact Fin.plain rfl
    · refine impl_RunResources_ (S := S) (X := noSec S.length) (L := L) (by omega) (by omega) (by omega) (Rd.own rfl) (Rd.owl rfl hnl) (Rd.own rfl) (fun _ => ?_) (fun h => absurd h.2 hL)
      simp only [not_true_eq_false, not_false_eq_true, decide_true, decide_false, Bool.not_true, Bool.not_false, false_implies, true_implies, and_true, true_and, Bool.false_eq_true, Bool.true_eq_false, implies_true, Bool.not_not, Classical.not_not, go_sem, Int.reduceToNat, List.take_nil, Nat.zero_mul, Nat.reduceEqDiff, Nat.reduceAdd, Nat.reduceLT, Nat.reduceLeDiff, Nat.reduceMul, ↓reduceIte, reduceCtorEq]
      refine impl_RunEdf_ (S := S) (L := L) (by omega) (by omega) (Rd.own rfl) (Rd.own rfl) (fun _ => ?_) (fun h => absurd h hL)
      simp only [not_true_eq_false, not_false_eq_true, decide_true, decide_false, Bool.not_true, Bool.not_false, false_implies, true_implies, and_true, true_and, Bool.false_eq_true, Bool.true_eq_false, implies_true, Bool.not_not, Classical.not_not, go_sem, Int.reduceToNat, List.take_nil, Nat.zero_mul, Nat.reduceEqDiff, Nat.reduceAdd, Nat.reduceLT, Nat.reduceLeDiff, Nat.reduceMul, ↓reduceIte, reduceCtorEq]
      refine laws_sameSchedule_ (X1 := []) (Y1 := []) (X2 := []) (Y2 := []) (Rd.none (by simp)) (Rd.none (by simp)) (Rd.none (by simp)) (Rd.none (by simp)) (by simp) (by simp) ?_
      simp only [not_true_eq_false, not_false_eq_true, decide_true, decide_false, Bool.not_true, Bool.not_false, false_implies, true_implies, and_true, true_and, Bool.false_eq_true, Bool.true_eq_false, implies_true, Bool.not_not, Classical.not_not, go_sem, Int.reduceToNat, List.take_nil, Nat.zero_mul, Nat.reduceEqDiff, Nat.reduceAdd, Nat.reduceLT, Nat.reduceLeDiff, Nat.reduceMul, ↓reduceIte, reduceCtorEq]
      refine laws_alive_ ?_
      simp only [not_true_eq_false, not_false_eq_true, decide_true, decide_false, Bool.not_true, Bool.not_false, false_implies, true_implies, and_true, true_and, Bool.false_eq_true, Bool.true_eq_false, implies_true, Bool.not_not, Classical.not_not, go_sem, Int.reduceToNat, List.take_nil, Nat.zero_mul, Nat.reduceEqDiff, Nat.reduceAdd, Nat.reduceLT, Nat.reduceLeDiff, Nat.reduceMul, ↓reduceIte, reduceCtorEq]
      exact Fin.plain rfl
theorem c_FnResourcesNone (C : List Nat) (c : Nat) (hC : ∀ x ∈ C, x < 256) (_ : C.length * 1 ≤ 140737488351232) (hc : C.length ≤ c) :
    CallWp Try.prog n_laws_FnResourcesNone [.sl 0 0 C.length c] [.ro (encByte.row C)] (fun x _ => x = .b true) := laws_FnResourcesNone0 C hC c hc
end Go.Proofs.Ytnlciginmeebhaa
