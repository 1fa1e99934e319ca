/- The laws FnResourcesStarted, FnResourcesMutex and FnBusySame answer true: over the abstract heap. -/
import Derived.Test.YtnlciginmeebhaaV26
import Derived.Test.YtnlciginmeebhaaS24
import Derived.Test.YtnlciginmeebhaaS9
import Derived.Test.YtnlciginmeebhaaM23
namespace Go.Proofs.Ytnlciginmeebhaa
open Go.Abs Go.Ds
set_option linter.unusedSimpArgs false
set_option linter.unusedVariables false
set_option maxRecDepth 20000
set_option maxHeartbeats 2000000

theorem laws_contains0 (R : List Int) (x : Int) (hs : R.length ≤ 1099511627776) (c : Nat) : CallWp Try.prog n_laws_contains [.sl 0 0 R.length c, .i .i64 x] [.ro (encInt.row R)] (fun v σ => v = .b (decide (x ∈ R)) ∧ σ = [.ro (encInt.row R)]) := by
  refine call_laws_contains (by simp) ?_
  simp only [c_laws_contains, go_sem, Int.reduceToNat, List.take_nil, Nat.zero_mul, Nat.reduceEqDiff, Nat.reduceAdd, Nat.reduceLT, Nat.reduceLeDiff, Nat.reduceMul, ↓reduceIte, reduceCtorEq]
  refine loop_count R.length (fun k => ⟨[(0, .sl 0 0 R.length c), (1, .i .i64 x), (5, .i .i64 k)], [.ro (encInt.row R)]⟩) (fun k => ∀ i (h : i < R.length), i < k → R[i] ≠ x) (fun i h h0 => absurd h0 (by omega)) (Wk.keep (by simp [look_cons])) fun k hk hJ => ?_
  simp only [l0_laws_contains, go_sem, Int.reduceToNat, List.take_nil, Nat.zero_mul, Nat.reduceEqDiff, Nat.reduceAdd, Nat.reduceLT, Nat.reduceLeDiff, Nat.reduceMul, ↓reduceIte, reduceCtorEq]
  refine ⟨fun h => ?_, fun h => ?_⟩
  · simp only [rdI h, lenI, go_sem, Int.reduceToNat, List.take_nil, Nat.zero_mul, Nat.reduceEqDiff, Nat.reduceAdd, Nat.reduceLT, Nat.reduceLeDiff, Nat.reduceMul, ↓reduceIte, reduceCtorEq]
    refine ⟨by omega, by omega, fun h1 => Fin.plain ⟨?_, rfl⟩, fun h1 => ⟨by omega, ⟨h, fun i hi hik => ?_⟩, Wk.keep (by simp [look_cons])⟩⟩
    · rw [decide_eq_true (by rw [← h1]; exact List.getElem_mem h)]
    · rcases Nat.lt_or_eq_of_le (Nat.le_of_lt_succ hik) with h2 | rfl
      · exact hJ i hi h2
      · exact h1
  · refine Fin.plain ⟨?_, rfl⟩
    rw [decide_eq_false fun hm => ?_]
    obtain ⟨i, hi, e⟩ := List.getElem_of_mem hm
    exact hJ i hi (by omega) e
theorem laws_contains_ {R : List Int} {x : Int} (hs : R.length ≤ 1099511627776) {v : AV} {σ : List AB} (h : Rd encInt σ v R) {K : AV → List AB → Prop} (hk : K (.b (decide (x ∈ R))) σ) : CallWp Try.prog n_laws_contains [v, .i .i64 x] σ K :=
  call_rds _ (rds1 h.r) (fun c => [.sl 0 0 R.length (c 0), .i .i64 x]) (fun c => laws_contains0 R x hs (c 0)) (fun ν c h => ⟨h.1, .inl rfl, trivial⟩) (fun _ => rfl) rfl hk

/-- The resources held by the first jobs. -/
def heldL (X : List Sec) (L : List Job) (done : List Int) : Nat → List Int
  | 0 => []
  | k + 1 => if heldS X L done k then heldL X L done k ++ [(jX X L k).Rs] else heldL X L done k
theorem heldL_mem {X : List Sec} {L : List Job} {done : List Int} {r : Int} : ∀ {k : Nat}, r ∈ heldL X L done k → ∃ i, i < k ∧ heldS X L done i = true ∧ (jX X L i).Rs = r
  | 0, h => by simp [heldL] at h
  | k + 1, h => by
    simp only [heldL] at h
    split at h
    · rename_i h1
      rcases List.mem_append.1 h with h2 | h2
      · obtain ⟨i, h3, h4⟩ := heldL_mem h2
        exact ⟨i, by omega, h4⟩
      · exact ⟨k, by omega, h1, (List.mem_singleton.1 h2).symm⟩
    · obtain ⟨i, h3, h4⟩ := heldL_mem h
      exact ⟨i, by omega, h4⟩
theorem heldL_len (X : List Sec) (L : List Job) (done : List Int) : ∀ k, (heldL X L done k).length ≤ k
  | 0 => Nat.le_refl _
  | k + 1 => by
    have := heldL_len X L done k
    simp only [heldL]
    split
    · simp; omega
    · omega

/-- What runs in a tick, and the work done behind it. -/
theorem srp_step {S : List Task} {X : List Sec} {L : List Job} {k : Nat} (hk : k < 120) (h : k < (srpRun S X L).length) :
    ((srpRun S X L)[k] = -1 ∧ (simU L (srpPick S X L) (k + 1)).done = (simU L (srpPick S X L) k).done) ∨
    ∃ n : Nat, n < L.length ∧ (srpRun S X L)[k] = n ∧ ∃ hd : n < (simU L (srpPick S X L) k).done.length, (0 ≤ (simU L (srpPick S X L) k).done[n] ∧ (simU L (srpPick S X L) k).done[n] ≤ k) ∧ (simU L (srpPick S X L) (k + 1)).done = (simU L (srpPick S X L) k).done.set n ((simU L (srpPick S X L) k).done[n] + 1) := by
  have e := simU_at (L := L) (pick := srpPick S X L) hk
  change gI (srpRun S X L) k = _ at e
  rw [gI_row h] at e
  rcases srp_fair S X L k (simU L (srpPick S X L) k).done with e1 | ⟨n, e1, hn, hr⟩
  · exact .inl ⟨e.trans e1, simU_done_neg (by omega)⟩
  · have hl := (simU_lens (L := L) (pick := srpPick S X L) k).1
    have hd : n < (simU L (srpPick S X L) k).done.length := by omega
    have hb := sim_done (L := L) (pick := fun _ now done => (srpPick S X L now done, ())) (s0 := ()) (fun _ now done => ((srp_fair S X L).lt now done).2) k n hn
    have e2 : gI (simU L (srpPick S X L) k).done n = (simU L (srpPick S X L) k).done[n] := gI_row hd
    refine .inr ⟨n, hn, e.trans e1, hd, ?_, ?_⟩
    · rw [← e2]; exact hb
    · rw [simU_done_pos e1, e2]

/-- A job that has started and is unfinished does not wait for a later one. -/
theorem srp_waits {S : List Task} {X : List Sec} {L : List Job} (ok : SrpOk S X L) {k i : Nat} (hk : k < 120) (h : k < (srpRun S X L).length) (hi : i < L.length) (hd : i < (simU L (srpPick S X L) k).done.length) (h0 : 0 < (simU L (srpPick S X L) k).done[i]) (h1 : (simU L (srpPick S X L) k).done[i] < L[i].E) :
    ∃ n : Nat, ∃ hn : n < L.length, (srpRun S X L)[k] = n ∧ L[n].D ≤ L[i].D := by
  have e := simU_at (L := L) (pick := srpPick S X L) hk
  change gI (srpRun S X L) k = _ at e
  rw [gI_row h] at e
  have e2 : gI (simU L (srpPick S X L) k).done i = (simU L (srpPick S X L) k).done[i] := gI_row hd
  have hre := reach (srp_fair S X L) ok.E k i hi
  have hrd : readyJ L (simU L (srpPick S X L) k).done k i = true := by
    unfold readyJ
    rw [decide_eq_true_eq, getD_at hi]
    rw [getD_at hi] at hre
    exact ⟨hre.2 (by omega), by omega⟩
  obtain ⟨n, hn, e3, h3⟩ := srp_started (S := S) (X := X) hi hrd (by omega)
  unfold keyD at h3
  rw [getD_at hn, getD_at hi] at h3
  exact ⟨n, hn, e.trans e3, h3⟩

theorem laws_FnResourcesStarted0 (C : List Nat) (hC : ∀ x ∈ C, x < 256) (c : Nat) (hc : C.length ≤ c) : CallWp Try.prog n_laws_FnResourcesStarted [.sl 0 0 C.length c] [.ro (encByte.row C)] (fun x _ => x = .b true) := by
  refine call_laws_FnResourcesStarted (by simp) ?_
  simp only [c_laws_FnResourcesStarted, go_sem, Int.reduceToNat, List.take_nil, Nat.zero_mul, Nat.reduceEqDiff, Nat.reduceAdd, Nat.reduceLT, Nat.reduceLeDiff, Nat.reduceMul, ↓reduceIte, reduceCtorEq]
  refine ⟨fun h => Fin.plain rfl, fun h => ?_⟩
  refine (spec_DrawRunResources0 C hC c hc).mono ?_
  rintro x σ' _ ⟨S, X, L, cap, cap2, cap', rfl, rfl, hS8, hX9, hL62⟩
  simp only [go_sem, Int.reduceToNat, List.take_nil, Nat.zero_mul, Nat.reduceEqDiff, Nat.reduceAdd, Nat.reduceLT, Nat.reduceLeDiff, Nat.reduceMul, ↓reduceIte, reduceCtorEq]
  have hR := srpRun_length S X L
  have hF := srpFin_length S X L
  by_cases hok : resOk S X L
  · have hv := hok.2
    refine impl_RunResources_ (S := S) (X := X) (L := L) (by omega) (by omega) (by omega) (Rd.own rfl) (Rd.own rfl) (Rd.own rfl) (fun hno => absurd hok hno) (fun _ c1 c2 => ?_)
    simp only [go_sem, Int.reduceToNat, List.take_nil, Nat.zero_mul, Nat.reduceEqDiff, Nat.reduceAdd, Nat.reduceLT, Nat.reduceLeDiff, Nat.reduceMul, ↓reduceIte, reduceCtorEq]
    refine spec_RunResources_ (S := S) (X := X) (L := L) (by omega) (by omega) (by omega) (Rd.own rfl) (Rd.own rfl) (Rd.own rfl) (fun hno => absurd hok hno) (fun _ => ?_)
    rintro x τ (⟨hno, _⟩ | ⟨_, d1, d2, ⟨hne, rfl, rfl⟩ | ⟨hne, rfl, rfl⟩⟩)
    · exact absurd trivial hno
    all_goals
      simp only [go_sem, Int.reduceToNat, List.take_nil, Nat.zero_mul, Nat.reduceEqDiff, Nat.reduceAdd, Nat.reduceLT, Nat.reduceLeDiff, Nat.reduceMul, ↓reduceIte, reduceCtorEq]
      refine laws_sameSchedule_ (X1 := srpRun S X L) (Y1 := srpFin S X L) (X2 := srpRun S X L) (Y2 := srpFin S X L) (Rd.owl rfl hR) (Rd.owl rfl hF) (Rd.owl rfl hR) (by first | exact Rd.own rfl | (rw [hne]; exact Rd.none (by simp))) (by omega) (by omega) ?_
      simp only [not_true_eq_false, not_false_eq_true, decide_true, decide_false, Bool.not_true, Bool.not_false, false_implies, true_implies, and_true, true_and, Bool.false_eq_true, Bool.true_eq_false, implies_true, Bool.not_not, Classical.not_not, go_sem, Int.reduceToNat, List.take_nil, Nat.zero_mul, Nat.reduceEqDiff, Nat.reduceAdd, Nat.reduceLT, Nat.reduceLeDiff, Nat.reduceMul, ↓reduceIte, reduceCtorEq]

      refine ⟨fun h => absurd rfl h, fun _ => ?_⟩
      have h60 := hv.2.1.1
      have ok := srpOk_of hok.1 hv
      have hlens := fun n => simU_lens (L := L) (pick := srpPick S X L) n
      refine ⟨by omega, ?_⟩
      rw [show rep L.length [AV.i .i64 0] = encInt.row (simU L (srpPick S X L) 0).done from encInt.rep 0 _]
      refine loop_count 120 (fun k => ⟨[(5, .sl 3 0 L.length cap'), (6, .p 6 0), (7, .sl 7 0 L.length L.length), (8, .i .i64 k)], [.ro (encByte.row C), .rw ty_impl_Task (encTask.row S) (cap * 3), .rw ty_impl_Section (encSec.row X) (cap2 * 3), .rw ty_impl_Job (encJob.row L) (cap' * 4), .rw ty_int (encInt.row (srpRun S X L)) c1, .rw ty_int (encInt.row (srpFin S X L)) c2, .rw ty_impl_Schedule [.sl 4 0 120 c1, .sl 5 0 L.length c2] 2, .rw ty_int (encInt.row (simU L (srpPick S X L) k).done) L.length]⟩)
        (fun _ => True) trivial (by first | exact Wk.pickR [0, 1, 2, 3, 4, 5, 6, 9] | exact Wk.pickR [0, 1, 2, 3, 4, 5, 6, 8]) fun k hk _ => ?_
      simp only [l1_laws_FnResourcesStarted, not_true_eq_false, not_false_eq_true, decide_true, decide_false, Bool.not_true, Bool.not_false, false_implies, true_implies, and_true, true_and, Bool.false_eq_true, Bool.true_eq_false, implies_true, Bool.not_not, Classical.not_not, go_sem, Int.reduceToNat, List.take_nil, Nat.zero_mul, Nat.reduceEqDiff, Nat.reduceAdd, Nat.reduceLT, Nat.reduceLeDiff, Nat.reduceMul, ↓reduceIte, reduceCtorEq]
      refine ⟨fun hlt => ?_, fun hge => Fin.plain rfl⟩
      have hkR : k < (srpRun S X L).length := by omega
      have hst := srp_step (S := S) (X := X) (L := L) (by omega) hkR
      have hwait := fun i hi hd h0 h1 => srp_waits (S := S) (X := X) (L := L) ok (k := k) (i := i) (by omega) hkR hi hd h0 h1
      have hdl := (hlens k).1
      generalize (simU L (srpPick S X L) (k + 1)).done = done' at hst ⊢
      generalize (simU L (srpPick S X L) k).done = done at hst hwait hdl ⊢
      simp only [rdI hkR, lenI, hR, not_true_eq_false, not_false_eq_true, decide_true, decide_false, Bool.not_true, Bool.not_false, false_implies, true_implies, and_true, true_and, Bool.false_eq_true, Bool.true_eq_false, implies_true, Bool.not_not, Classical.not_not, go_sem, Int.reduceToNat, List.take_nil, Nat.zero_mul, Nat.reduceEqDiff, Nat.reduceAdd, Nat.reduceLT, Nat.reduceLeDiff, Nat.reduceMul, ↓reduceIte, reduceCtorEq]
      refine ⟨by omega, by omega, ?_⟩
      refine loop_count L.length (fun i => ⟨[(5, .sl 3 0 L.length cap'), (6, .p 6 0), (7, .sl 7 0 L.length L.length), (8, .i .i64 k), (9, .i .i64 (srpRun S X L)[k]), (10, .i .i64 i)], [.ro (encByte.row C), .rw ty_impl_Task (encTask.row S) (cap * 3), .rw ty_impl_Section (encSec.row X) (cap2 * 3), .rw ty_impl_Job (encJob.row L) (cap' * 4), .rw ty_int (encInt.row (srpRun S X L)) c1, .rw ty_int (encInt.row (srpFin S X L)) c2, .rw ty_impl_Schedule [.sl 4 0 120 c1, .sl 5 0 L.length c2] 2, .rw ty_int (encInt.row done) L.length]⟩)
        (fun _ => True) trivial (Wk.pickR [0, 1, 2, 3, 4, 5, 6, 7]) fun i hi' _ => ?_
      simp only [l0_laws_FnResourcesStarted, not_true_eq_false, not_false_eq_true, decide_true, decide_false, Bool.not_true, Bool.not_false, false_implies, true_implies, and_true, true_and, Bool.false_eq_true, Bool.true_eq_false, implies_true, Bool.not_not, Classical.not_not, go_sem, Int.reduceToNat, List.take_nil, Nat.zero_mul, Nat.reduceEqDiff, Nat.reduceAdd, Nat.reduceLT, Nat.reduceLeDiff, Nat.reduceMul, ↓reduceIte, reduceCtorEq]
      refine ⟨fun hi => ?_, fun hi => ?_⟩
      · have hid : i < done.length := by omega
        have hw := hwait i hi hid
        by_cases hrun : 0 < done[i] ∧ done[i] < L[i].E
        · obtain ⟨n, hn, e, h3⟩ := hw hrun.1 hrun.2
          simp only [rdI hid, rdJ3 hi, rdJ2 hi, e, Int.toNat_natCast, rdJ2 hn, lenI, lenJ, hdl, not_true_eq_false, not_false_eq_true, decide_true, decide_false, Bool.not_true, Bool.not_false, false_implies, true_implies, and_true, true_and, Bool.false_eq_true, Bool.true_eq_false, implies_true, Bool.not_not, Classical.not_not, go_sem, Int.reduceToNat, List.take_nil, Nat.zero_mul, Nat.reduceEqDiff, Nat.reduceAdd, Nat.reduceLT, Nat.reduceLeDiff, Nat.reduceMul, ↓reduceIte, reduceCtorEq]
          repeat' first | omega | (exfalso; omega) | exact Wk.pickR [0, 1, 2, 3, 4, 5, 6, 7] | refine ⟨?_, ?_⟩ | intro _
        · clear hw hwait hst
          simp only [rdI hid, rdJ3 hi, lenI, lenJ, hdl, not_true_eq_false, not_false_eq_true, decide_true, decide_false, Bool.not_true, Bool.not_false, false_implies, true_implies, and_true, true_and, Bool.false_eq_true, Bool.true_eq_false, implies_true, Bool.not_not, Classical.not_not, go_sem, Int.reduceToNat, List.take_nil, Nat.zero_mul, Nat.reduceEqDiff, Nat.reduceAdd, Nat.reduceLT, Nat.reduceLeDiff, Nat.reduceMul, ↓reduceIte, reduceCtorEq]
          refine ⟨by omega, by omega, fun h1 => ⟨by omega, by omega, by omega, by omega, fun h2 => absurd ⟨h1, h2⟩ hrun, fun h2 => ⟨by omega, hi, Wk.pickR [0, 1, 2, 3, 4, 5, 6, 7]⟩⟩, fun h1 => ⟨by omega, hi, Wk.pickR [0, 1, 2, 3, 4, 5, 6, 7]⟩⟩
      · rcases hst with ⟨e, e2⟩ | ⟨n, hn, e, hd, hb, e2⟩
        · subst e2
          simp only [e, not_true_eq_false, not_false_eq_true, decide_true, decide_false, Bool.not_true, Bool.not_false, false_implies, true_implies, and_true, true_and, Bool.false_eq_true, Bool.true_eq_false, implies_true, Bool.not_not, Classical.not_not, go_sem, Int.reduceToNat, List.take_nil, Nat.zero_mul, Nat.reduceEqDiff, Nat.reduceAdd, Nat.reduceLT, Nat.reduceLeDiff, Nat.reduceMul, ↓reduceIte, reduceCtorEq]
          repeat' first | omega | (exfalso; omega) | exact Wk.pickR [0, 1, 2, 3, 4, 5, 6, 7] | refine ⟨?_, ?_⟩ | intro _
        · subst e2
          simp only [e, Int.toNat_natCast, rdI hd, splI hd, lenI, hdl, not_true_eq_false, not_false_eq_true, decide_true, decide_false, Bool.not_true, Bool.not_false, false_implies, true_implies, and_true, true_and, Bool.false_eq_true, Bool.true_eq_false, implies_true, Bool.not_not, Classical.not_not, go_sem, Int.reduceToNat, List.take_nil, Nat.zero_mul, Nat.reduceEqDiff, Nat.reduceAdd, Nat.reduceLT, Nat.reduceLeDiff, Nat.reduceMul, ↓reduceIte, reduceCtorEq]
          repeat' first | omega | (exfalso; omega) | exact Wk.pickR [0, 1, 2, 3, 4, 5, 6, 7] | refine ⟨?_, ?_⟩ | intro _
  · refine impl_RunResources_ (S := S) (X := X) (L := L) (by omega) (by omega) (by omega) (Rd.own rfl) (Rd.own rfl) (Rd.own rfl) (fun _ => ?_) (fun h => absurd h hok)
    simp only [go_sem, Int.reduceToNat, List.take_nil, Nat.zero_mul, Nat.reduceEqDiff, Nat.reduceAdd, Nat.reduceLT, Nat.reduceLeDiff, Nat.reduceMul, ↓reduceIte, reduceCtorEq]
    refine spec_RunResources_ (S := S) (X := X) (L := L) (by omega) (by omega) (by omega) (Rd.own rfl) (Rd.own rfl) (Rd.own rfl) (fun _ => ?_) (fun h => absurd h hok)
    simp only [go_sem, Int.reduceToNat, List.take_nil, Nat.zero_mul, Nat.reduceEqDiff, Nat.reduceAdd, Nat.reduceLT, Nat.reduceLeDiff, Nat.reduceMul, ↓reduceIte, reduceCtorEq]
    refine laws_sameSchedule_ (X1 := []) (Y1 := []) (X2 := []) (Y2 := []) (Rd.none (by simp)) (Rd.none (by simp)) (Rd.none (by simp)) (Rd.none (by simp)) (by simp) (by simp) ?_
    simp only [not_true_eq_false, not_false_eq_true, decide_true, decide_false, Bool.not_true, Bool.not_false, false_implies, true_implies, and_true, true_and, Bool.false_eq_true, Bool.true_eq_false, implies_true, Bool.not_not, Classical.not_not, go_sem, Int.reduceToNat, List.take_nil, Nat.zero_mul, Nat.reduceEqDiff, Nat.reduceAdd, Nat.reduceLT, Nat.reduceLeDiff, Nat.reduceMul, ↓reduceIte, reduceCtorEq]

    refine ⟨fun _ => laws_alive_ ?_, fun h => absurd h (by decide)⟩
    simp only [not_true_eq_false, not_false_eq_true, decide_true, decide_false, Bool.not_true, Bool.not_false, false_implies, true_implies, and_true, true_and, Bool.false_eq_true, Bool.true_eq_false, implies_true, Bool.not_not, Classical.not_not, go_sem, Int.reduceToNat, List.take_nil, Nat.zero_mul, Nat.reduceEqDiff, Nat.reduceAdd, Nat.reduceLT, Nat.reduceLeDiff, Nat.reduceMul, ↓reduceIte, reduceCtorEq]
    exact Fin.plain rfl
theorem c_FnResourcesStarted (C : List Nat) (c : Nat) (hC : ∀ x ∈ C, x < 256) (_ : C.length * 1 ≤ 140737488351232) (hc : C.length ≤ c) :
    CallWp Try.prog n_laws_FnResourcesStarted [.sl 0 0 C.length c] [.ro (encByte.row C)] (fun x _ => x = .b true) := laws_FnResourcesStarted0 C hC c hc

/-- The three policies are idle in the same ticks. -/
theorem srp_busies {S : List Task} {X : List Sec} {L : List Job} (ok : SrpOk S X L) (O : List Int) {k : Nat} (hk : k < 120) (k1 : k < (srpRun S X L).length) (k2 : k < (edfRun L).length) (k3 : k < (fixRun O L).length) :
    ((srpRun S X L)[k]'k1 < 0 ↔ (edfRun L)[k]'k2 < 0) ∧ ((fixRun O L)[k]'k3 < 0 ↔ (edfRun L)[k]'k2 < 0) := by
  have e1 := simU_at (L := L) (pick := srpPick S X L) hk
  change gI (srpRun S X L) k = _ at e1
  rw [gI_row k1] at e1
  have e2 := simU_at (L := L) (pick := edfPick L) hk
  change gI (edfRun L) k = _ at e2
  rw [gI_row k2] at e2
  have e3 := simU_at (L := L) (pick := fixPick O L) hk
  change gI (fixRun O L) k = _ at e3
  rw [gI_row k3] at e3
  have b1 := (busy_same (srp_fair S X L) (edf_fair L) (srp_busy S X (fun j hj => by
    obtain ⟨q, hq, rfl⟩ := List.getElem_of_mem hj
    have := (ok.D13 q hq).2
    rw [getD_at hq] at this; exact this) ok.St) (edf_busy L) ok.E k).2
  have b2 := (busy_same (fix_fair O L) (edf_fair L) (fun now done h => best_busy h) (edf_busy L) ok.E k).2
  have f1 := (srp_fair S X L).lt k (simU L (srpPick S X L) k).done
  have f2 := (edf_fair L).lt k (simU L (edfPick L) k).done
  have f3 := (fix_fair O L).lt k (simU L (fixPick O L) k).done
  rw [e1, e2, e3]
  omega

theorem laws_FnBusySame0 (C : List Nat) (hC : ∀ x ∈ C, x < 256) (c : Nat) (hc : C.length ≤ c) : CallWp Try.prog n_laws_FnBusySame [.sl 0 0 C.length c] [.ro (encByte.row C)] (fun x _ => x = .b true) := by
  refine call_laws_FnBusySame (by simp) ?_
  simp only [c_laws_FnBusySame, go_sem, Int.reduceToNat, List.take_nil, Nat.zero_mul, Nat.reduceEqDiff, Nat.reduceAdd, Nat.reduceLT, Nat.reduceLeDiff, Nat.reduceMul, ↓reduceIte, reduceCtorEq]
  refine ⟨fun h => Fin.plain rfl, fun h => ?_⟩
  refine (spec_DrawRunResources0 C hC c hc).mono ?_
  rintro x σ' _ ⟨S, X, L, cap, cap2, cap', rfl, rfl, hS8, hX9, hL62⟩
  simp only [go_sem, Int.reduceToNat, List.take_nil, Nat.zero_mul, Nat.reduceEqDiff, Nat.reduceAdd, Nat.reduceLT, Nat.reduceLeDiff, Nat.reduceMul, ↓reduceIte, reduceCtorEq]
  have hR := srpRun_length S X L
  have hF := srpFin_length S X L
  by_cases hok : resOk S X L
  · have hv := hok.2
    refine impl_RunResources_ (S := S) (X := X) (L := L) (by omega) (by omega) (by omega) (Rd.own rfl) (Rd.own rfl) (Rd.own rfl) (fun hno => absurd hok hno) (fun _ c1 c2 => ?_)
    simp only [go_sem, Int.reduceToNat, List.take_nil, Nat.zero_mul, Nat.reduceEqDiff, Nat.reduceAdd, Nat.reduceLT, Nat.reduceLeDiff, Nat.reduceMul, ↓reduceIte, reduceCtorEq]
    refine spec_RunResources_ (S := S) (X := X) (L := L) (by omega) (by omega) (by omega) (Rd.own rfl) (Rd.own rfl) (Rd.own rfl) (fun hno => absurd hok hno) (fun _ => ?_)
    rintro x τ (⟨hno, _⟩ | ⟨_, d1, d2, ⟨hne, rfl, rfl⟩ | ⟨hne, rfl, rfl⟩⟩)
    · exact absurd trivial hno
    all_goals
      simp only [go_sem, Int.reduceToNat, List.take_nil, Nat.zero_mul, Nat.reduceEqDiff, Nat.reduceAdd, Nat.reduceLT, Nat.reduceLeDiff, Nat.reduceMul, ↓reduceIte, reduceCtorEq]
      refine laws_sameSchedule_ (X1 := srpRun S X L) (Y1 := srpFin S X L) (X2 := srpRun S X L) (Y2 := srpFin S X L) (Rd.owl rfl hR) (Rd.owl rfl hF) (Rd.owl rfl hR) (by first | exact Rd.own rfl | (rw [hne]; exact Rd.none (by simp))) (by omega) (by omega) ?_
      simp only [not_true_eq_false, not_false_eq_true, decide_true, decide_false, Bool.not_true, Bool.not_false, false_implies, true_implies, and_true, true_and, Bool.false_eq_true, Bool.true_eq_false, implies_true, Bool.not_not, Classical.not_not, go_sem, Int.reduceToNat, List.take_nil, Nat.zero_mul, Nat.reduceEqDiff, Nat.reduceAdd, Nat.reduceLT, Nat.reduceLeDiff, Nat.reduceMul, ↓reduceIte, reduceCtorEq]

      refine ⟨fun h => absurd rfl h, fun _ => ?_⟩
      have h60 := hv.2.1.1
      have ok := srpOk_of hok.1 hv
      have hR0 := edfRun_length L
      have hF0 := edfFin_length L
      refine impl_RunEdf_ (S := S) (L := L) (by omega) (by omega) (Rd.own rfl) (Rd.own rfl) (fun hno => absurd hv hno) (fun _ c3 c4 => ?_)
      simp only [not_true_eq_false, not_false_eq_true, decide_true, decide_false, Bool.not_true, Bool.not_false, false_implies, true_implies, and_true, true_and, Bool.false_eq_true, Bool.true_eq_false, implies_true, Bool.not_not, Classical.not_not, go_sem, Int.reduceToNat, List.take_nil, Nat.zero_mul, Nat.reduceEqDiff, Nat.reduceAdd, Nat.reduceLT, Nat.reduceLeDiff, Nat.reduceMul, ↓reduceIte, reduceCtorEq]
      refine impl_DeadlineMonotonic_ (S := S) (by omega) (Rd.own rfl) (fun hno => absurd hv.1 hno) (fun O cap3 cc hO => ?_)
      simp only [not_true_eq_false, not_false_eq_true, decide_true, decide_false, Bool.not_true, Bool.not_false, false_implies, true_implies, and_true, true_and, Bool.false_eq_true, Bool.true_eq_false, implies_true, Bool.not_not, Classical.not_not, go_sem, Int.reduceToNat, List.take_nil, Nat.zero_mul, Nat.reduceEqDiff, Nat.reduceAdd, Nat.reduceLT, Nat.reduceLeDiff, Nat.reduceMul, ↓reduceIte, reduceCtorEq]
      have hOl : O.length = S.length := hO.2.1
      have hR1 : (fixRun O L).length = 120 := (simU_lens 120).2.2
      refine impl_RunFixed_ (S := S) (O := O) (L := L) (by omega) (by omega) (by omega) (Rd.own rfl) (Rd.owl rfl hOl) (Rd.own rfl) (fun hno => absurd ⟨hO, hv⟩ hno) (fun _ c5 c6 => ?_)
      simp only [not_true_eq_false, not_false_eq_true, decide_true, decide_false, Bool.not_true, Bool.not_false, false_implies, true_implies, and_true, true_and, Bool.false_eq_true, Bool.true_eq_false, implies_true, Bool.not_not, Classical.not_not, go_sem, Int.reduceToNat, List.take_nil, Nat.zero_mul, Nat.reduceEqDiff, Nat.reduceAdd, Nat.reduceLT, Nat.reduceLeDiff, Nat.reduceMul, ↓reduceIte, reduceCtorEq]
      refine loop_count 120 (fun k => ⟨[(6, .p 6 0), (7, .p 9 0), (8, .p 12 0), (9, .i .i64 k)], [.ro (encByte.row C), .rw ty_impl_Task (encTask.row S) (cap * 3), .rw ty_impl_Section (encSec.row X) (cap2 * 3), .rw ty_impl_Job (encJob.row L) (cap' * 4), .rw ty_int (encInt.row (srpRun S X L)) c1, .rw ty_int (encInt.row (srpFin S X L)) c2, .rw ty_impl_Schedule [.sl 4 0 120 c1, .sl 5 0 L.length c2] 2, .rw ty_int (encInt.row (edfRun L)) c3, .rw ty_int (encInt.row (edfFin L)) c4, .rw ty_impl_Schedule [.sl 7 0 120 c3, .sl 8 0 L.length c4] 2, .rw ty_int (encInt.row (fixRun O L)) c5, .rw ty_int (encInt.row (fixFin O L)) c6, .rw ty_impl_Schedule [.sl 10 0 120 c5, .sl 11 0 L.length c6] 2]⟩)
        (fun _ => True) trivial (by first | exact Wk.pickR [0, 1, 2, 3, 4, 5, 6, 9, 10, 11, 13, 14, 15] | exact Wk.pickR [0, 1, 2, 3, 4, 5, 6, 8, 9, 10, 12, 13, 14]) fun k hk _ => ?_
      simp only [l0_laws_FnBusySame, not_true_eq_false, not_false_eq_true, decide_true, decide_false, Bool.not_true, Bool.not_false, false_implies, true_implies, and_true, true_and, Bool.false_eq_true, Bool.true_eq_false, implies_true, Bool.not_not, Classical.not_not, go_sem, Int.reduceToNat, List.take_nil, Nat.zero_mul, Nat.reduceEqDiff, Nat.reduceAdd, Nat.reduceLT, Nat.reduceLeDiff, Nat.reduceMul, ↓reduceIte, reduceCtorEq]
      refine ⟨fun hlt => ?_, fun hge => Fin.plain rfl⟩
      have k1 : k < (srpRun S X L).length := by omega
      have k2 : k < (edfRun L).length := by omega
      have k3 : k < (fixRun O L).length := by omega
      have hb := srp_busies ok O (show k < 120 by omega) k1 k2 k3
      have hb1 : decide ((srpRun S X L)[k]'k1 < 0) = decide ((edfRun L)[k]'k2 < 0) := decide_eq_decide.2 hb.1
      have hb2 : decide ((fixRun O L)[k]'k3 < 0) = decide ((edfRun L)[k]'k2 < 0) := decide_eq_decide.2 hb.2
      simp only [rdI k1, rdI k2, rdI k3, lenI, hR, hR0, hR1, hb1, hb2, not_true_eq_false, not_false_eq_true, decide_true, decide_false, Bool.not_true, Bool.not_false, false_implies, true_implies, and_true, true_and, Bool.false_eq_true, Bool.true_eq_false, implies_true, Bool.not_not, Classical.not_not, go_sem, Int.reduceToNat, List.take_nil, Nat.zero_mul, Nat.reduceEqDiff, Nat.reduceAdd, Nat.reduceLT, Nat.reduceLeDiff, Nat.reduceMul, ↓reduceIte, reduceCtorEq]
      repeat' first | omega | (exfalso; omega) | exact Wk.pickR [0, 1, 2, 3, 4, 5, 6, 7, 8, 9, 10, 11, 12] | refine ⟨?_, ?_⟩ | intro _
  · refine impl_RunResources_ (S := S) (X := X) (L := L) (by omega) (by omega) (by omega) (Rd.own rfl) (Rd.own rfl) (Rd.own rfl) (fun _ => ?_) (fun h => absurd h hok)
    simp only [go_sem, Int.reduceToNat, List.take_nil, Nat.zero_mul, Nat.reduceEqDiff, Nat.reduceAdd, Nat.reduceLT, Nat.reduceLeDiff, Nat.reduceMul, ↓reduceIte, reduceCtorEq]
    refine spec_RunResources_ (S := S) (X := X) (L := L) (by omega) (by omega) (by omega) (Rd.own rfl) (Rd.own rfl) (Rd.own rfl) (fun _ => ?_) (fun h => absurd h hok)
    simp only [go_sem, Int.reduceToNat, List.take_nil, Nat.zero_mul, Nat.reduceEqDiff, Nat.reduceAdd, Nat.reduceLT, Nat.reduceLeDiff, Nat.reduceMul, ↓reduceIte, reduceCtorEq]
    refine laws_sameSchedule_ (X1 := []) (Y1 := []) (X2 := []) (Y2 := []) (Rd.none (by simp)) (Rd.none (by simp)) (Rd.none (by simp)) (Rd.none (by simp)) (by simp) (by simp) ?_
    simp only [not_true_eq_false, not_false_eq_true, decide_true, decide_false, Bool.not_true, Bool.not_false, false_implies, true_implies, and_true, true_and, Bool.false_eq_true, Bool.true_eq_false, implies_true, Bool.not_not, Classical.not_not, go_sem, Int.reduceToNat, List.take_nil, Nat.zero_mul, Nat.reduceEqDiff, Nat.reduceAdd, Nat.reduceLT, Nat.reduceLeDiff, Nat.reduceMul, ↓reduceIte, reduceCtorEq]

    refine ⟨fun _ => laws_alive_ ?_, fun h => absurd h (by decide)⟩
    simp only [not_true_eq_false, not_false_eq_true, decide_true, decide_false, Bool.not_true, Bool.not_false, false_implies, true_implies, and_true, true_and, Bool.false_eq_true, Bool.true_eq_false, implies_true, Bool.not_not, Classical.not_not, go_sem, Int.reduceToNat, List.take_nil, Nat.zero_mul, Nat.reduceEqDiff, Nat.reduceAdd, Nat.reduceLT, Nat.reduceLeDiff, Nat.reduceMul, ↓reduceIte, reduceCtorEq]
    exact Fin.plain rfl
theorem c_FnBusySame (C : List Nat) (c : Nat) (hC : ∀ x ∈ C, x < 256) (_ : C.length * 1 ≤ 140737488351232) (hc : C.length ≤ c) :
    CallWp Try.prog n_laws_FnBusySame [.sl 0 0 C.length c] [.ro (encByte.row C)] (fun x _ => x = .b true) := laws_FnBusySame0 C hC c hc

theorem laws_FnResourcesMutex0 (C : List Nat) (hC : ∀ x ∈ C, x < 256) (c : Nat) (hc : C.length ≤ c) : CallWp Try.prog n_laws_FnResourcesMutex [.sl 0 0 C.length c] [.ro (encByte.row C)] (fun x _ => x = .b true) := by
  refine call_laws_FnResourcesMutex (by simp) ?_
  simp only [c_laws_FnResourcesMutex, go_sem, Int.reduceToNat, List.take_nil, Nat.zero_mul, Nat.reduceEqDiff, Nat.reduceAdd, Nat.reduceLT, Nat.reduceLeDiff, Nat.reduceMul, ↓reduceIte, reduceCtorEq]
  refine ⟨fun h => Fin.plain rfl, fun h => ?_⟩
  refine (spec_DrawRunResources0 C hC c hc).mono ?_
  rintro x σ' _ ⟨S, X, L, cap, cap2, cap', rfl, rfl, hS8, hX9, hL62⟩
  simp only [go_sem, Int.reduceToNat, List.take_nil, Nat.zero_mul, Nat.reduceEqDiff, Nat.reduceAdd, Nat.reduceLT, Nat.reduceLeDiff, Nat.reduceMul, ↓reduceIte, reduceCtorEq]
  have hR := srpRun_length S X L
  have hF := srpFin_length S X L
  by_cases hok : resOk S X L
  · have hv := hok.2
    refine impl_RunResources_ (S := S) (X := X) (L := L) (by omega) (by omega) (by omega) (Rd.own rfl) (Rd.own rfl) (Rd.own rfl) (fun hno => absurd hok hno) (fun _ c1 c2 => ?_)
    simp only [go_sem, Int.reduceToNat, List.take_nil, Nat.zero_mul, Nat.reduceEqDiff, Nat.reduceAdd, Nat.reduceLT, Nat.reduceLeDiff, Nat.reduceMul, ↓reduceIte, reduceCtorEq]
    refine spec_RunResources_ (S := S) (X := X) (L := L) (by omega) (by omega) (by omega) (Rd.own rfl) (Rd.own rfl) (Rd.own rfl) (fun hno => absurd hok hno) (fun _ => ?_)
    rintro x τ (⟨hno, _⟩ | ⟨_, d1, d2, ⟨hne, rfl, rfl⟩ | ⟨hne, rfl, rfl⟩⟩)
    · exact absurd trivial hno
    all_goals
      simp only [go_sem, Int.reduceToNat, List.take_nil, Nat.zero_mul, Nat.reduceEqDiff, Nat.reduceAdd, Nat.reduceLT, Nat.reduceLeDiff, Nat.reduceMul, ↓reduceIte, reduceCtorEq]
      refine laws_sameSchedule_ (X1 := srpRun S X L) (Y1 := srpFin S X L) (X2 := srpRun S X L) (Y2 := srpFin S X L) (Rd.owl rfl hR) (Rd.owl rfl hF) (Rd.owl rfl hR) (by first | exact Rd.own rfl | (rw [hne]; exact Rd.none (by simp))) (by omega) (by omega) ?_
      simp only [not_true_eq_false, not_false_eq_true, decide_true, decide_false, Bool.not_true, Bool.not_false, false_implies, true_implies, and_true, true_and, Bool.false_eq_true, Bool.true_eq_false, implies_true, Bool.not_not, Classical.not_not, go_sem, Int.reduceToNat, List.take_nil, Nat.zero_mul, Nat.reduceEqDiff, Nat.reduceAdd, Nat.reduceLT, Nat.reduceLeDiff, Nat.reduceMul, ↓reduceIte, reduceCtorEq]

      refine ⟨fun h => absurd rfl h, fun _ => ?_⟩
      have h60 := hv.2.1.1
      have ok := srpOk_of hok.1 hv
      have hlens := fun n => simU_lens (L := L) (pick := srpPick S X L) n
      refine ⟨by omega, ?_⟩
      rw [show rep L.length [AV.i .i64 0] = encInt.row (simU L (srpPick S X L) 0).done from encInt.rep 0 _]
      refine loop_count 120 (fun k => ⟨[(4, .sl 2 0 X.length cap2), (5, .sl 3 0 L.length cap'), (6, .p 6 0), (7, .sl 7 0 L.length L.length), (8, .i .i64 k)], [.ro (encByte.row C), .rw ty_impl_Task (encTask.row S) (cap * 3), .rw ty_impl_Section (encSec.row X) (cap2 * 3), .rw ty_impl_Job (encJob.row L) (cap' * 4), .rw ty_int (encInt.row (srpRun S X L)) c1, .rw ty_int (encInt.row (srpFin S X L)) c2, .rw ty_impl_Schedule [.sl 4 0 120 c1, .sl 5 0 L.length c2] 2, .rw ty_int (encInt.row (simU L (srpPick S X L) k).done) L.length]⟩)
        (fun _ => True) trivial (by first | exact Wk.pickR [0, 1, 2, 3, 4, 5, 6, 9] | exact Wk.pickR [0, 1, 2, 3, 4, 5, 6, 8]) fun k hk _ => ?_
      simp only [l1_laws_FnResourcesMutex, not_true_eq_false, not_false_eq_true, decide_true, decide_false, Bool.not_true, Bool.not_false, false_implies, true_implies, and_true, true_and, Bool.false_eq_true, Bool.true_eq_false, implies_true, Bool.not_not, Classical.not_not, go_sem, Int.reduceToNat, List.take_nil, Nat.zero_mul, Nat.reduceEqDiff, Nat.reduceAdd, Nat.reduceLT, Nat.reduceLeDiff, Nat.reduceMul, ↓reduceIte, reduceCtorEq]
      refine ⟨fun hlt => ?_, fun hge => Fin.plain rfl⟩
      have hkR : k < (srpRun S X L).length := by omega
      refine seq_join (fun _ : Unit => ⟨[(4, .sl 2 0 X.length cap2), (5, .sl 3 0 L.length cap'), (6, .p 6 0), (7, .sl 7 0 L.length L.length), (8, .i .i64 k)], [.ro (encByte.row C), .rw ty_impl_Task (encTask.row S) (cap * 3), .rw ty_impl_Section (encSec.row X) (cap2 * 3), .rw ty_impl_Job (encJob.row L) (cap' * 4), .rw ty_int (encInt.row (srpRun S X L)) c1, .rw ty_int (encInt.row (srpFin S X L)) c2, .rw ty_impl_Schedule [.sl 4 0 120 c1, .sl 5 0 L.length c2] 2, .rw ty_int (encInt.row (simU L (srpPick S X L) (k + 1)).done) L.length]⟩) (fun _ => True) ?_ ?_
      · have hst := srp_step (S := S) (X := X) (L := L) (by omega) hkR
        have hdl := (hlens k).1
        generalize (simU L (srpPick S X L) (k + 1)).done = done' at hst ⊢
        generalize (simU L (srpPick S X L) k).done = done at hst hdl ⊢
        rcases hst with ⟨e, e2⟩ | ⟨n, hn, e, hd, hb, e2⟩
        · subst e2
          simp only [rdI hkR, e, lenI, hR, not_true_eq_false, not_false_eq_true, decide_true, decide_false, Bool.not_true, Bool.not_false, false_implies, true_implies, and_true, true_and, Bool.false_eq_true, Bool.true_eq_false, implies_true, Bool.not_not, Classical.not_not, go_sem, Int.reduceToNat, List.take_nil, Nat.zero_mul, Nat.reduceEqDiff, Nat.reduceAdd, Nat.reduceLT, Nat.reduceLeDiff, Nat.reduceMul, ↓reduceIte, reduceCtorEq]
          repeat' first | omega | (exfalso; omega) | exact kJ_intro () trivial (Wk.pickR [0, 1, 2, 3, 4, 5, 6, 7]) | refine ⟨?_, ?_⟩ | intro _
        · subst e2
          simp only [rdI hkR, e, Int.toNat_natCast, rdI hd, splI hd, lenI, hdl, hR, not_true_eq_false, not_false_eq_true, decide_true, decide_false, Bool.not_true, Bool.not_false, false_implies, true_implies, and_true, true_and, Bool.false_eq_true, Bool.true_eq_false, implies_true, Bool.not_not, Classical.not_not, go_sem, Int.reduceToNat, List.take_nil, Nat.zero_mul, Nat.reduceEqDiff, Nat.reduceAdd, Nat.reduceLT, Nat.reduceLeDiff, Nat.reduceMul, ↓reduceIte, reduceCtorEq]
          repeat' first | omega | (exfalso; omega) | exact kJ_intro () trivial (Wk.pickR [0, 1, 2, 3, 4, 5, 6, 7]) | refine ⟨?_, ?_⟩ | intro _
      rintro _ _
      have hmx := fun a b ha hb hne h1 h2 => mutex (S := S) (X := X) (L := L) ok.E (fun i hi => (hv.2.1.mem (getD_mem hi)).1) ok.St (k + 1) (a := a) (b := b) ha hb hne h1 h2
      have hdl := (hlens (k + 1)).1
      have hdb := sim_done (L := L) (pick := fun _ now done => (srpPick S X L now done, ())) (s0 := ()) (fun _ now done => ((srp_fair S X L).lt now done).2) (k + 1)
      change ∀ (i : Nat), i < L.length → 0 ≤ gI (simU L (srpPick S X L) (k + 1)).done i ∧ gI (simU L (srpPick S X L) (k + 1)).done i ≤ ((k + 1 : Nat) : Int) at hdb
      generalize (simU L (srpPick S X L) (k + 1)).done = done at hmx hdl hdb ⊢
      simp only [not_true_eq_false, not_false_eq_true, decide_true, decide_false, Bool.not_true, Bool.not_false, false_implies, true_implies, and_true, true_and, Bool.false_eq_true, Bool.true_eq_false, implies_true, Bool.not_not, Classical.not_not, go_sem, Int.reduceToNat, List.take_nil, Nat.zero_mul, Nat.reduceEqDiff, Nat.reduceAdd, Nat.reduceLT, Nat.reduceLeDiff, Nat.reduceMul, ↓reduceIte, reduceCtorEq]
      refine loop_intro (fun i : Nat × Nat => ⟨[(4, .sl 2 0 X.length cap2), (5, .sl 3 0 L.length cap'), (6, .p 6 0), (7, .sl 7 0 L.length L.length), (8, .i .i64 k), (9, .sl 8 0 (heldL X L done i.1).length i.2), (10, .i .i64 i.1)], [.ro (encByte.row C), .rw ty_impl_Task (encTask.row S) (cap * 3), .rw ty_impl_Section (encSec.row X) (cap2 * 3), .rw ty_impl_Job (encJob.row L) (cap' * 4), .rw ty_int (encInt.row (srpRun S X L)) c1, .rw ty_int (encInt.row (srpFin S X L)) c2, .rw ty_impl_Schedule [.sl 4 0 120 c1, .sl 5 0 L.length c2] 2, .rw ty_int (encInt.row done) L.length, .rw ty_int (encInt.row (heldL X L done i.1)) i.2]⟩)
        (fun i => i.1 ≤ L.length ∧ (heldL X L done i.1).length ≤ i.2) (fun i => L.length - i.1) (0, 0) ⟨by simp only; omega, by simp [heldL]⟩ (by simp only [heldL, List.length_nil, show encInt.row ([] : List Int) = [] from rfl]; exact Wk.pickR [0, 1, 2, 3, 4, 5, 6, 7, 8]) ?_
      rintro ⟨i, cp⟩ ⟨hi1, hi2⟩
      simp only at hi1 hi2
      simp only [l0_laws_FnResourcesMutex, not_true_eq_false, not_false_eq_true, decide_true, decide_false, Bool.not_true, Bool.not_false, false_implies, true_implies, and_true, true_and, Bool.false_eq_true, Bool.true_eq_false, implies_true, Bool.not_not, Classical.not_not, go_sem, Int.reduceToNat, List.take_nil, Nat.zero_mul, Nat.reduceEqDiff, Nat.reduceAdd, Nat.reduceLT, Nat.reduceLeDiff, Nat.reduceMul, ↓reduceIte, reduceCtorEq]
      refine ⟨fun hi => ?_, fun hi => ?_⟩
      · have hTk := (hv.2.1.mem (List.getElem_mem hi)).1
        obtain ⟨q, hq⟩ := Int.eq_ofNat_of_zero_le hTk.1
        have hqX : q < X.length := by have := hok.1.2.1; omega
        have hkd : i < done.length := by omega
        have gL : L.getD i default = L[i] := by simp [List.getD_eq_getElem?_getD, hi]
        have hjx : jX X L i = X[q] := by unfold jX; rw [gL, hq]; exact gX_at hqX
        have hsx := hok.1.2.2 q hqX
        rw [gX_at hqX] at hsx
        unfold secOk at hsx
        have htk := gT_ok hok.1.1 (show (0 : Int) ≤ q by omega) (show (q : Int) < S.length by omega)
        unfold Task.ok at htk
        have hdbi := hdb i hi
        rw [gI_nat hkd] at hdbi
        have hh : heldS X L done i = decide (0 < X[q].Ln ∧ X[q].St < done[i] ∧ done[i] < X[q].St + X[q].Ln ∧ done[i] < L[i].E) := by unfold heldS; rw [hjx, gI_nat hkd, gL]
        have hsucc : heldL X L done (i + 1) = if heldS X L done i then heldL X L done i ++ [X[q].Rs] else heldL X L done i := by rw [← hjx]; rfl
        have hlen := heldL_len X L done i
        by_cases hb : (0 < X[q].Ln ∧ X[q].St < done[i] ∧ done[i] < X[q].St + X[q].Ln ∧ done[i] < L[i].E)
        · have hbd := hh
          rw [decide_eq_true hb] at hbd
          rw [if_pos hbd] at hsucc
          have hno : ¬ X[q].Rs ∈ heldL X L done i := fun hm => by
            obtain ⟨i', h1, h2, h3⟩ := heldL_mem hm
            exact hmx i' i (by omega) hi (by omega) h2 hbd (by rw [h3, hjx])
          simp only [rdJ0 hi, rdJ3 hi, hq, Int.toNat_natCast, winX hqX, encXf, rdI hkd, lenJ, lenX, lenI, hdl, hb.1, hb.2.1, hb.2.2.1, hb.2.2.2, not_true_eq_false, not_false_eq_true, decide_true, decide_false, Bool.not_true, Bool.not_false, false_implies, true_implies, and_true, true_and, Bool.false_eq_true, Bool.true_eq_false, implies_true, Bool.not_not, Classical.not_not, go_sem, Int.reduceToNat, List.take_nil, Nat.zero_mul, Nat.reduceEqDiff, Nat.reduceAdd, Nat.reduceLT, Nat.reduceLeDiff, Nat.reduceMul, ↓reduceIte, reduceCtorEq]
          repeat refine ⟨by omega, ?_⟩
          refine laws_contains_ (R := heldL X L done i) (by omega) (Rd.own rfl) ?_
          rw [decide_eq_false hno]
          simp only [lenI, takeI, appI, not_true_eq_false, not_false_eq_true, decide_true, decide_false, Bool.not_true, Bool.not_false, false_implies, true_implies, and_true, true_and, Bool.false_eq_true, Bool.true_eq_false, implies_true, Bool.not_not, Classical.not_not, go_sem, Int.reduceToNat, List.take_nil, Nat.zero_mul, Nat.reduceEqDiff, Nat.reduceAdd, Nat.reduceLT, Nat.reduceLeDiff, Nat.reduceMul, ↓reduceIte, reduceCtorEq]
          have hl1 : (heldL X L done (i + 1)).length = (heldL X L done i).length + 1 := by rw [hsucc]; simp
          refine ⟨by omega, fun cp' hcp => ⟨by omega, (i + 1, cp'), ⟨⟨by simp only; omega, by simp only; omega⟩, by simp only; omega⟩, ?_⟩⟩
          simp only [hl1, show ((i + 1 : Nat) : Int) = (i : Int) + 1 from by omega]
          rw [hsucc]
          exact Wk.pickR [0, 1, 2, 3, 4, 5, 6, 7, 11]
        · have hbf := hh
          rw [decide_eq_false hb] at hbf
          rw [if_neg (by rw [hbf]; simp)] at hsucc
          simp only [rdJ0 hi, rdJ3 hi, hq, Int.toNat_natCast, winX hqX, encXf, rdI hkd, lenJ, lenX, lenI, hdl, not_true_eq_false, not_false_eq_true, decide_true, decide_false, Bool.not_true, Bool.not_false, false_implies, true_implies, and_true, true_and, Bool.false_eq_true, Bool.true_eq_false, implies_true, Bool.not_not, Classical.not_not, go_sem, Int.reduceToNat, List.take_nil, Nat.zero_mul, Nat.reduceEqDiff, Nat.reduceAdd, Nat.reduceLT, Nat.reduceLeDiff, Nat.reduceMul, ↓reduceIte, reduceCtorEq]
          have next : ∃ i' : Nat × Nat, ((i'.1 ≤ L.length ∧ (heldL X L done i'.1).length ≤ i'.2) ∧ L.length - i'.1 < L.length - i) ∧ i' = (i + 1, cp) := ⟨(i + 1, cp), ⟨⟨by simp only; omega, by simp only; rw [hsucc]; exact hi2⟩, by simp only; omega⟩, rfl⟩
          obtain ⟨i', hi', e'⟩ := next
          repeat' first
            | omega
            | (exfalso; omega)
            | exact ⟨by omega, i', hi', by rw [e']; simp only [hsucc, show ((i + 1 : Nat) : Int) = (i : Int) + 1 from by omega]; exact Wk.pickR [0, 1, 2, 3, 4, 5, 6, 7, 8]⟩
            | refine ⟨?_, ?_⟩
            | intro _
      · refine ⟨by omega, by omega, ?_⟩
        rw [show ((k + 1 : Nat) : Int) = (k : Int) + 1 by omega]
        exact Wk.pickR [0, 1, 2, 3, 4, 5, 6, 7]
  · refine impl_RunResources_ (S := S) (X := X) (L := L) (by omega) (by omega) (by omega) (Rd.own rfl) (Rd.own rfl) (Rd.own rfl) (fun _ => ?_) (fun h => absurd h hok)
    simp only [go_sem, Int.reduceToNat, List.take_nil, Nat.zero_mul, Nat.reduceEqDiff, Nat.reduceAdd, Nat.reduceLT, Nat.reduceLeDiff, Nat.reduceMul, ↓reduceIte, reduceCtorEq]
    refine spec_RunResources_ (S := S) (X := X) (L := L) (by omega) (by omega) (by omega) (Rd.own rfl) (Rd.own rfl) (Rd.own rfl) (fun _ => ?_) (fun h => absurd h hok)
    simp only [go_sem, Int.reduceToNat, List.take_nil, Nat.zero_mul, Nat.reduceEqDiff, Nat.reduceAdd, Nat.reduceLT, Nat.reduceLeDiff, Nat.reduceMul, ↓reduceIte, reduceCtorEq]
    refine laws_sameSchedule_ (X1 := []) (Y1 := []) (X2 := []) (Y2 := []) (Rd.none (by simp)) (Rd.none (by simp)) (Rd.none (by simp)) (Rd.none (by simp)) (by simp) (by simp) ?_
    simp only [not_true_eq_false, not_false_eq_true, decide_true, decide_false, Bool.not_true, Bool.not_false, false_implies, true_implies, and_true, true_and, Bool.false_eq_true, Bool.true_eq_false, implies_true, Bool.not_not, Classical.not_not, go_sem, Int.reduceToNat, List.take_nil, Nat.zero_mul, Nat.reduceEqDiff, Nat.reduceAdd, Nat.reduceLT, Nat.reduceLeDiff, Nat.reduceMul, ↓reduceIte, reduceCtorEq]

    refine ⟨fun _ => laws_alive_ ?_, fun h => absurd h (by decide)⟩
    simp only [not_true_eq_false, not_false_eq_true, decide_true, decide_false, Bool.not_true, Bool.not_false, false_implies, true_implies, and_true, true_and, Bool.false_eq_true, Bool.true_eq_false, implies_true, Bool.not_not, Classical.not_not, go_sem, Int.reduceToNat, List.take_nil, Nat.zero_mul, Nat.reduceEqDiff, Nat.reduceAdd, Nat.reduceLT, Nat.reduceLeDiff, Nat.reduceMul, ↓reduceIte, reduceCtorEq]
    exact Fin.plain rfl
theorem c_FnResourcesMutex (C : List Nat) (c : Nat) (hC : ∀ x ∈ C, x < 256) (_ : C.length * 1 ≤ 140737488351232) (hc : C.length ≤ c) :
    CallWp Try.prog n_laws_FnResourcesMutex [.sl 0 0 C.length c] [.ro (encByte.row C)] (fun x _ => x = .b true) := laws_FnResourcesMutex0 C hC c hc

end Go.Proofs.Ytnlciginmeebhaa
