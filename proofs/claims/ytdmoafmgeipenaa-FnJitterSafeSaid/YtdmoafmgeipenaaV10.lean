/- The law FnJitterSafe answers true: over the abstract heap. -/
import Derived.Test.YtdmoafmgeipenaaV1
import Derived.Test.YtdmoafmgeipenaaS13
import Derived.Test.YtdmoafmgeipenaaS14
import Derived.Test.YtdmoafmgeipenaaF1
import Derived.Test.YtdmoafmgeipenaaF3
import Derived.Test.YtdmoafmgeipenaaC6
import Derived.Test.YtdmoafmgeipenaaMM
namespace Go.Proofs.Ytdmoafmgeipenaa
open Go.Abs Go.Ds
set_option linter.unusedSimpArgs false
set_option linter.unusedVariables false
set_option maxRecDepth 20000
set_option maxHeartbeats 2000000

theorem spec_DrawRunJitter0 (C : List Nat) (hC : ∀ x ∈ C, x < 256) (c : Nat) (hc : C.length ≤ c) : CallWp Try.prog n_spec_DrawRunJitter [.sl 0 0 C.length c] [.ro (encByte.row C)] (fun x σ' => ∃ (S : List Task) (J O : List Int) (L : List Job) (cap cap3 cap4 cap' : Nat),
    x = .tup [.sl 1 0 S.length cap, .sl 2 0 J.length cap3, .sl 3 0 O.length cap4, .sl 4 0 L.length cap'] ∧ σ' = [.ro (encByte.row C), .rw ty_impl_Task (encTask.row S) (cap * 3), .rw ty_int (encInt.row J) cap3, .rw ty_int (encInt.row O) cap4, .rw ty_impl_Job (encJob.row L) (cap' * 4)] ∧ (S.length ≤ 8 ∧ ∀ t ∈ S, wildT t) ∧ J.length ≤ 9 ∧ O.length ≤ 9 ∧ L.length ≤ 62) := by
  refine call_spec_DrawRunJitter (by simp) ?_
  simp only [c_spec_DrawRunJitter, go_sem, Int.reduceToNat, List.take_nil, Nat.zero_mul, Nat.reduceEqDiff, Nat.reduceAdd, Nat.reduceLT, Nat.reduceLeDiff, Nat.reduceMul, ↓reduceIte, reduceCtorEq]
  refine (spec_l20Open0 C c hc).mono ?_
  rintro x σ' _ ⟨rfl, rfl⟩
  simp only [go_sem, Int.reduceToNat, List.take_nil, Nat.zero_mul, Nat.reduceEqDiff, Nat.reduceAdd, Nat.reduceLT, Nat.reduceLeDiff, Nat.reduceMul, ↓reduceIte, reduceCtorEq]
  refine spec_l20Set_ (Rdr.take (τ := [])) (Code.take hC) (by omega) _ (by omega) fun S cap p1 h11 h12 hS8 hS _ => ?_
  simp only [go_sem, Int.reduceToNat, List.take_nil, Nat.zero_mul, Nat.reduceEqDiff, Nat.reduceAdd, Nat.reduceLT, Nat.reduceLeDiff, Nat.reduceMul, ↓reduceIte, reduceCtorEq]
  refine spec_l20Jitter_ (Rdr.take (τ := [_])) (Code.take hC) (by omega) hS8 hS (Sl.own rfl (by decide)) _ (by omega) fun J cap3 p3 h31 h32 hJ9 hJ => ?_
  simp only [go_sem, Int.reduceToNat, List.take_nil, Nat.zero_mul, Nat.reduceEqDiff, Nat.reduceAdd, Nat.reduceLT, Nat.reduceLeDiff, Nat.reduceMul, ↓reduceIte, reduceCtorEq]
  refine spec_l20Order_ (Rdr.take (τ := [_, _])) (Code.take hC) (by omega) _ (by omega) _ (by omega) fun O cap4 p4 h41 h42 hO9 hO => ?_
  simp only [go_sem, Int.reduceToNat, List.take_nil, Nat.zero_mul, Nat.reduceEqDiff, Nat.reduceAdd, Nat.reduceLT, Nat.reduceLeDiff, Nat.reduceMul, ↓reduceIte, reduceCtorEq]
  refine spec_SetValid_ (L := S) (by omega) (Rd.own rfl) ?_
  simp only [not_true_eq_false, not_false_eq_true, decide_true, decide_false, Bool.not_true, Bool.not_false, false_implies, true_implies, and_true, true_and, Bool.false_eq_true, Bool.true_eq_false, implies_true, Bool.not_not, Classical.not_not, go_sem, Int.reduceToNat, List.take_nil, Nat.zero_mul, Nat.reduceEqDiff, Nat.reduceAdd, Nat.reduceLT, Nat.reduceLeDiff, Nat.reduceMul, ↓reduceIte, reduceCtorEq]
  refine ⟨fun hv => ?_, fun hv => ?_⟩
  · exact Fin.pick [0, 2, 3, 4, 5] (.tup [.sl 1 0 S.length cap, .sl 2 0 J.length cap3, .sl 3 0 O.length cap4, .sl 4 0 0 0]) [.ro (encByte.row C), .rw ty_impl_Task (encTask.row S) (cap * 3), .rw ty_int (encInt.row J) cap3, .rw ty_int (encInt.row O) cap4, .rw ty_impl_Job (encJob.row []) (0 * 4)] ⟨S, J, O, [], cap, cap3, cap4, 0, rfl, rfl, ⟨hS8, hS⟩, hJ9, hO9, by simp⟩
  · refine spec_l20Late_ (Rdr.take (τ := [_, _, _])) (Code.take hC) (by omega) hv ⟨hJ9, hJ⟩ (Sl.own rfl (by decide)) (Sl.own rfl (by decide)) _ (by omega) fun L cap' p2 h21 h22 hL62 hL => ?_
    simp only [go_sem, Int.reduceToNat, List.take_nil, Nat.zero_mul, Nat.reduceEqDiff, Nat.reduceAdd, Nat.reduceLT, Nat.reduceLeDiff, Nat.reduceMul, ↓reduceIte, reduceCtorEq]
    exact Fin.pick [0, 2, 3, 4, 5] (.tup [.sl 1 0 S.length cap, .sl 2 0 J.length cap3, .sl 3 0 O.length cap4, .sl 4 0 L.length cap']) _ ⟨S, J, O, L, cap, cap3, cap4, cap', rfl, rfl, ⟨hS8, hS⟩, hJ9, hO9, hL62⟩

theorem fixRunLen (O : List Int) (L : List Job) : (fixRun O L).length = 120 := (simU_lens 120).2.2
theorem fixFinLen (O : List Int) (L : List Job) : (fixFin O L).length = L.length := (simU_lens 120).2.1
theorem fix_on (O : List Int) (L : List Job) : FixedOn O L (fixPick O L) := fun _ _ => rfl

theorem laws_FnJitterSafe0 (C : List Nat) (hC : ∀ x ∈ C, x < 256) (c : Nat) (hc : C.length ≤ c) : CallWp Try.prog n_laws_FnJitterSafe [.sl 0 0 C.length c] [.ro (encByte.row C)] (fun x _ => x = .b true) := by
  refine call_laws_FnJitterSafe (by simp) ?_
  simp only [c_laws_FnJitterSafe, go_sem, Int.reduceToNat, List.take_nil, Nat.zero_mul, Nat.reduceEqDiff, Nat.reduceAdd, Nat.reduceLT, Nat.reduceLeDiff, Nat.reduceMul, ↓reduceIte, reduceCtorEq]
  refine ⟨fun h => Fin.plain rfl, fun h => ?_⟩
  refine (spec_DrawRunJitter0 C hC c hc).mono ?_
  rintro x σ' _ ⟨S, J, O, L, cap, cap3, cap4, cap', rfl, rfl, ⟨hS8, hSw⟩, hJ9, hO9, hL62⟩
  simp only [go_sem, Int.reduceToNat, List.take_nil, Nat.zero_mul, Nat.reduceEqDiff, Nat.reduceAdd, Nat.reduceLT, Nat.reduceLeDiff, Nat.reduceMul, ↓reduceIte, reduceCtorEq]
  have hR := fixRunLen O L
  have hF := fixFinLen O L
  by_cases hv : jitRunOk S J O L
  · refine impl_RunJitter_ (S := S) (J := J) (O := O) (L := L) (by omega) (by omega) (by omega) (by omega) (Rd.own rfl) (Rd.own rfl) (Rd.own rfl) (Rd.own rfl) (fun hno => absurd hv hno) (fun _ c1 c2 => ?_)
    simp only [go_sem, Int.reduceToNat, List.take_nil, Nat.zero_mul, Nat.reduceEqDiff, Nat.reduceAdd, Nat.reduceLT, Nat.reduceLeDiff, Nat.reduceMul, ↓reduceIte, reduceCtorEq]
    refine spec_RunJitter_ (S := S) (J := J) (O := O) (L := L) (by omega) (by omega) (by omega) (by omega) (Rd.own rfl) (Rd.own rfl) (Rd.own rfl) (Rd.own rfl) (fun hno => absurd hv hno) (fun _ => ?_)
    rintro x τ (⟨hno, _⟩ | ⟨_, d1, d2, ⟨hne, rfl, rfl⟩ | ⟨hne, rfl, rfl⟩⟩)
    · exact absurd trivial hno
    all_goals
      simp only [go_sem, Int.reduceToNat, List.take_nil, Nat.zero_mul, Nat.reduceEqDiff, Nat.reduceAdd, Nat.reduceLT, Nat.reduceLeDiff, Nat.reduceMul, ↓reduceIte, reduceCtorEq]
      refine laws_sameSchedule_ (X1 := fixRun O L) (Y1 := fixFin O L) (X2 := fixRun O L) (Y2 := fixFin O L) (Rd.len' rfl hR) (Rd.len' rfl hF) (Rd.len' rfl hR) (by first | exact Rd.own rfl | (rw [hne]; exact Rd.none (by simp))) (by omega) (by omega) ?_
      simp only [not_true_eq_false, not_false_eq_true, decide_true, decide_false, Bool.not_true, Bool.not_false, false_implies, true_implies, and_true, true_and, Bool.false_eq_true, Bool.true_eq_false, implies_true, Bool.not_not, Classical.not_not, go_sem, Int.reduceToNat, List.take_nil, Nat.zero_mul, Nat.reduceEqDiff, Nat.reduceAdd, Nat.reduceLT, Nat.reduceLeDiff, Nat.reduceMul, ↓reduceIte, reduceCtorEq]
      refine ⟨fun h => absurd rfl h, fun _ => ?_⟩
      refine impl_JitterResponse_ (S := S) (J := J) (O := O) (by omega) (by omega) (by omega) (Rd.own rfl) (Rd.own rfl) (Rd.own rfl) (fun hno => absurd ⟨hv.1.1, hv.2⟩ hno) (fun _ _ capr => ?_)
      simp only [not_true_eq_false, not_false_eq_true, decide_true, decide_false, Bool.not_true, Bool.not_false, false_implies, true_implies, and_true, true_and, Bool.false_eq_true, Bool.true_eq_false, implies_true, Bool.not_not, Classical.not_not, go_sem, Int.reduceToNat, List.take_nil, Nat.zero_mul, Nat.reduceEqDiff, Nat.reduceAdd, Nat.reduceLT, Nat.reduceLeDiff, Nat.reduceMul, ↓reduceIte, reduceCtorEq]
      have hrl := resps_length S J O O.length
      have hfp := fp_fin hv.1 hv.2 (fix_on O L)
      change (∀ k, 0 ≤ k → k < (S.length : Int) → 0 ≤ gI (resps S J O O.length) k) → (∀ i, i < L.length → 0 ≤ gI (fixFin O L) i → gI (fixFin O L) i - arrOf S (L.getD i default) ≤ gI (resps S J O O.length) (L.getD i default).T) ∧ missedL L (fixFin O L) = [] at hfp
      generalize resps S J O O.length = Q at hrl hfp ⊢
      refine loop_count S.length (fun k => ⟨[(3, .sl 1 0 S.length cap), (6, .sl 4 0 L.length cap'), (7, .p 7 0), (8, .sl 8 0 S.length capr), (9, .i .i64 k)], [.ro (encByte.row C), .rw ty_impl_Task (encTask.row S) (cap * 3), .rw ty_int (encInt.row J) cap3, .rw ty_int (encInt.row O) cap4, .rw ty_impl_Job (encJob.row L) (cap' * 4), .rw ty_int (encInt.row (fixRun O L)) c1, .rw ty_int (encInt.row (fixFin O L)) c2, .rw ty_impl_Schedule [.sl 5 0 120 c1, .sl 6 0 L.length c2] 2, .rw ty_int (encInt.row Q) capr]⟩)
        (fun k => ∀ m (hm : m < Q.length), m < k → 0 ≤ Q[m]) (fun m _ hm => absurd hm (by simp)) (by first | exact Wk.pick [0, 1, 2, 3, 4, 5, 6, 7, 10] | exact Wk.pick [0, 1, 2, 3, 4, 5, 6, 7, 9]) fun k hk hJk => ?_
      simp only [l1_laws_FnJitterSafe, not_true_eq_false, not_false_eq_true, decide_true, decide_false, Bool.not_true, Bool.not_false, false_implies, true_implies, and_true, true_and, Bool.false_eq_true, Bool.true_eq_false, implies_true, Bool.not_not, Classical.not_not, go_sem, Int.reduceToNat, List.take_nil, Nat.zero_mul, Nat.reduceEqDiff, Nat.reduceAdd, Nat.reduceLT, Nat.reduceLeDiff, Nat.reduceMul, ↓reduceIte, reduceCtorEq]
      refine ⟨fun hlt => ?_, fun hge => ?_⟩
      · have hkQ : k < Q.length := by omega
        simp only [rdI hkQ, lenI, hrl, not_true_eq_false, not_false_eq_true, decide_true, decide_false, Bool.not_true, Bool.not_false, false_implies, true_implies, and_true, true_and, Bool.false_eq_true, Bool.true_eq_false, implies_true, Bool.not_not, Classical.not_not, go_sem, Int.reduceToNat, List.take_nil, Nat.zero_mul, Nat.reduceEqDiff, Nat.reduceAdd, Nat.reduceLT, Nat.reduceLeDiff, Nat.reduceMul, ↓reduceIte, reduceCtorEq]
        refine ⟨by omega, by omega, fun hneg => Fin.plain rfl, fun hpos => ⟨by omega, ⟨by omega, fun m hm hmk => ?_⟩, Wk.pick [0, 1, 2, 3, 4, 5, 6, 7, 8]⟩⟩
        rcases Nat.lt_succ_iff_lt_or_eq.1 hmk with h3 | h3
        · exact hJk m (by omega) h3
        · subst h3; omega
      · have hkS : k = S.length := by omega
        obtain ⟨hfin, hmiss⟩ := hfp (fun m h0 h1 => by
          have hm : m.toNat < Q.length := by omega
          rw [gI_eq hm]
          exact hJk _ hm (by omega))
        refine loop_count L.length (fun k => ⟨[(3, .sl 1 0 S.length cap), (6, .sl 4 0 L.length cap'), (7, .p 7 0), (8, .sl 8 0 S.length capr), (10, .i .i64 k)], [.ro (encByte.row C), .rw ty_impl_Task (encTask.row S) (cap * 3), .rw ty_int (encInt.row J) cap3, .rw ty_int (encInt.row O) cap4, .rw ty_impl_Job (encJob.row L) (cap' * 4), .rw ty_int (encInt.row (fixRun O L)) c1, .rw ty_int (encInt.row (fixFin O L)) c2, .rw ty_impl_Schedule [.sl 5 0 120 c1, .sl 6 0 L.length c2] 2, .rw ty_int (encInt.row Q) capr]⟩)
          (fun _ => True) trivial (Wk.pick [0, 1, 2, 3, 4, 5, 6, 7, 8]) fun k hk _ => ?_
        simp only [l0_laws_FnJitterSafe, not_true_eq_false, not_false_eq_true, decide_true, decide_false, Bool.not_true, Bool.not_false, false_implies, true_implies, and_true, true_and, Bool.false_eq_true, Bool.true_eq_false, implies_true, Bool.not_not, Classical.not_not, go_sem, Int.reduceToNat, List.take_nil, Nat.zero_mul, Nat.reduceEqDiff, Nat.reduceAdd, Nat.reduceLT, Nat.reduceLeDiff, Nat.reduceMul, ↓reduceIte, reduceCtorEq]
        refine ⟨fun hlt => ?_, fun hge2 => ?_⟩
        · have hkF : k < (fixFin O L).length := by omega
          have hmem := hv.1.2.1.mem (List.getElem_mem hlt)
          have hjl := hv.1.2.2.1 _ (List.getElem_mem hlt)
          have hTS : L[k].T.toNat < S.length := by omega
          have hTQ : L[k].T.toNat < Q.length := by omega
          have h1 := hfin k hlt
          rw [getD_at hlt, gI_row hkF, gI_eq hTQ] at h1
          unfold arrOf at h1 hjl
          rw [gT_eq hTS] at h1 hjl
          have hQ0 := hJk _ hTQ (by omega)
          have hfb : -1 ≤ (fixFin O L)[k] ∧ (fixFin O L)[k] ≤ 120 := by
            rw [← gI_row hkF]
            rcases (runInv (fix_fair O L) (fun x hx => (hv.1.2.1.mem hx).2.2.1) 120 k hlt).fin with ⟨e, _⟩ | ⟨f, e, _, hf120, _⟩
            · change gI (fixFin O L) k = -1 at e; omega
            · change gI (fixFin O L) k = f at e; omega
          have hts := hv.1.1.1.2 _ (List.getElem_mem hTS)
          unfold Task.ok at hts
          simp only [rdI hkF, rdI hTQ, rdJ0 hlt, rdJ2 hlt, winT hTS, encT', lenT, lenI, lenJ, hrl, hF, not_true_eq_false, not_false_eq_true, decide_true, decide_false, Bool.not_true, Bool.not_false, false_implies, true_implies, and_true, true_and, Bool.false_eq_true, Bool.true_eq_false, implies_true, Bool.not_not, Classical.not_not, go_sem, Int.reduceToNat, List.take_nil, Nat.zero_mul, Nat.reduceEqDiff, Nat.reduceAdd, Nat.reduceLT, Nat.reduceLeDiff, Nat.reduceMul, ↓reduceIte, reduceCtorEq]
          repeat' first
            | omega
            | (exfalso; omega)
            | exact Wk.pick [0, 1, 2, 3, 4, 5, 6, 7, 8]
            | refine ⟨?_, ?_⟩
            | intro _
        · refine impl_Missed_ (L := L) (fin := fixFin O L) (by omega) hF (Rd.own rfl) (Rd.len' rfl hF) (fun _ => ?_) (fun ne => absurd hmiss ne)
          simp only [not_true_eq_false, not_false_eq_true, decide_true, decide_false, Bool.not_true, Bool.not_false, false_implies, true_implies, and_true, true_and, Bool.false_eq_true, Bool.true_eq_false, implies_true, Bool.not_not, Classical.not_not, go_sem, Int.reduceToNat, List.take_nil, Nat.zero_mul, Nat.reduceEqDiff, Nat.reduceAdd, Nat.reduceLT, Nat.reduceLeDiff, Nat.reduceMul, ↓reduceIte, reduceCtorEq]
          exact Fin.plain rfl
  · refine impl_RunJitter_ (S := S) (J := J) (O := O) (L := L) (by omega) (by omega) (by omega) (by omega) (Rd.own rfl) (Rd.own rfl) (Rd.own rfl) (Rd.own rfl) (fun _ => ?_) (fun h => absurd h hv)
    simp only [go_sem, Int.reduceToNat, List.take_nil, Nat.zero_mul, Nat.reduceEqDiff, Nat.reduceAdd, Nat.reduceLT, Nat.reduceLeDiff, Nat.reduceMul, ↓reduceIte, reduceCtorEq]
    refine spec_RunJitter_ (S := S) (J := J) (O := O) (L := L) (by omega) (by omega) (by omega) (by omega) (Rd.own rfl) (Rd.own rfl) (Rd.own rfl) (Rd.own rfl) (fun _ => ?_) (fun h => absurd h hv)
    simp only [go_sem, Int.reduceToNat, List.take_nil, Nat.zero_mul, Nat.reduceEqDiff, Nat.reduceAdd, Nat.reduceLT, Nat.reduceLeDiff, Nat.reduceMul, ↓reduceIte, reduceCtorEq]
    refine laws_sameSchedule_ (X1 := []) (Y1 := []) (X2 := []) (Y2 := []) (Rd.none (by simp)) (Rd.none (by simp)) (Rd.none (by simp)) (Rd.none (by simp)) (by simp) (by simp) ?_
    simp only [not_true_eq_false, not_false_eq_true, decide_true, decide_false, Bool.not_true, Bool.not_false, false_implies, true_implies, and_true, true_and, Bool.false_eq_true, Bool.true_eq_false, implies_true, Bool.not_not, Classical.not_not, go_sem, Int.reduceToNat, List.take_nil, Nat.zero_mul, Nat.reduceEqDiff, Nat.reduceAdd, Nat.reduceLT, Nat.reduceLeDiff, Nat.reduceMul, ↓reduceIte, reduceCtorEq]
    first | refine laws_alive_ ?_ | refine ⟨fun _ => laws_alive_ ?_, fun h => absurd h (by decide)⟩
    simp only [not_true_eq_false, not_false_eq_true, decide_true, decide_false, Bool.not_true, Bool.not_false, false_implies, true_implies, and_true, true_and, Bool.false_eq_true, Bool.true_eq_false, implies_true, Bool.not_not, Classical.not_not, go_sem, Int.reduceToNat, List.take_nil, Nat.zero_mul, Nat.reduceEqDiff, Nat.reduceAdd, Nat.reduceLT, Nat.reduceLeDiff, Nat.reduceMul, ↓reduceIte, reduceCtorEq]
    exact Fin.plain rfl

theorem c_FnJitterSafe (C : List Nat) (c : Nat) (hC : ∀ x ∈ C, x < 256) (_ : C.length * 1 ≤ 140737488351232) (hc : C.length ≤ c) : CallWp Try.prog n_laws_FnJitterSafe [.sl 0 0 C.length c] [.ro (encByte.row C)] (fun x _ => x = .b true) := laws_FnJitterSafe0 C hC c hc
end Go.Proofs.Ytdmoafmgeipenaa
