/- The law FnJitterMore answers true: over the abstract heap. -/
import Derived.Test.YtdmoafmgeipenaaE7
import Derived.Test.YtdmoafmgeipenaaF1
import Derived.Test.YtdmoafmgeipenaaD2
import Derived.Test.YtdmoafmgeipenaaD4
import Derived.Test.YtdmoafmgeipenaaV1
import Derived.Test.YtdmoafmgeipenaaS13
import Derived.Test.YtdmoafmgeipenaaS21
import Derived.Test.YtdmoafmgeipenaaC6
namespace Go.Proofs.Ytdmoafmgeipenaa
open Go.Abs Go.Ds
set_option linter.unusedSimpArgs false
set_option linter.unusedVariables false
set_option maxRecDepth 20000
set_option maxHeartbeats 2000000

theorem spec_DrawJitterResponse0 (C : List Nat) (hC : ∀ x ∈ C, x < 256) (c : Nat) (hc : C.length ≤ c) : CallWp Try.prog n_spec_DrawJitterResponse [.sl 0 0 C.length c] [.ro (encByte.row C)] (fun x σ' => ∃ (L : List Task) (J O : List Int) (cap cap' cap3 : Nat),
    x = .tup [.sl 1 0 L.length cap, .sl 2 0 J.length cap', .sl 3 0 O.length cap3] ∧ σ' = [.ro (encByte.row C), .rw ty_impl_Task (encTask.row L) (cap * 3), .rw ty_int (encInt.row J) cap', .rw ty_int (encInt.row O) cap3] ∧ (L.length ≤ 8 ∧ ∀ t ∈ L, wildT t) ∧ (J.length ≤ 9 ∧ ∀ j ∈ J, -1 ≤ j ∧ j ≤ 20) ∧ O.length ≤ 9 ∧ ∀ j ∈ O, -1 ≤ j ∧ j ≤ 20) := by
  refine call_spec_DrawJitterResponse (by simp) ?_
  simp only [c_spec_DrawJitterResponse, go_sem, Int.reduceToNat, List.take_nil, Nat.zero_mul, Nat.reduceEqDiff, Nat.reduceAdd, Nat.reduceLT, Nat.reduceLeDiff, Nat.reduceMul, ↓reduceIte, reduceCtorEq]
  refine (spec_l20Open0 C c hc).mono ?_
  rintro x σ' _ ⟨rfl, rfl⟩
  simp only [go_sem, Int.reduceToNat, List.take_nil, Nat.zero_mul, Nat.reduceEqDiff, Nat.reduceAdd, Nat.reduceLT, Nat.reduceLeDiff, Nat.reduceMul, ↓reduceIte, reduceCtorEq]
  refine spec_l20Set_ (Rdr.take (τ := [])) (Code.take hC) (by omega) _ (by omega) fun L cap p1 h11 h12 hL8 hL _ => ?_
  simp only [go_sem, Int.reduceToNat, List.take_nil, Nat.zero_mul, Nat.reduceEqDiff, Nat.reduceAdd, Nat.reduceLT, Nat.reduceLeDiff, Nat.reduceMul, ↓reduceIte, reduceCtorEq]
  refine spec_l20Jitter_ (Rdr.take (τ := [_])) (Code.take hC) (by omega) hL8 hL (Sl.own rfl (by decide)) _ (by omega) fun J cap' p2 h21 h22 hJ9 hJ => ?_
  simp only [go_sem, Int.reduceToNat, List.take_nil, Nat.zero_mul, Nat.reduceEqDiff, Nat.reduceAdd, Nat.reduceLT, Nat.reduceLeDiff, Nat.reduceMul, ↓reduceIte, reduceCtorEq]
  refine spec_l20Order_ (Rdr.take (τ := [_, _])) (Code.take hC) (by omega) _ (by omega) _ (by omega) fun O cap3 p3 h31 h32 hO9 hO => ?_
  simp only [go_sem, Int.reduceToNat, List.take_nil, Nat.zero_mul, Nat.reduceEqDiff, Nat.reduceAdd, Nat.reduceLT, Nat.reduceLeDiff, Nat.reduceMul, ↓reduceIte, reduceCtorEq]
  refine Fin.pick [0, 2, 3, 4] (.tup [.sl 1 0 L.length cap, .sl 2 0 J.length cap', .sl 3 0 O.length cap3]) _ ⟨L, J, O, cap, cap', cap3, rfl, rfl, ⟨hL8, hL⟩, ⟨hJ9, hJ⟩, hO9, hO⟩

theorem fixLenR (O : List Int) (L : List Job) : (fixRun O L).length = 120 := (simU_lens 120).2.2
theorem fixLenF (O : List Int) (L : List Job) : (fixFin O L).length = L.length := (simU_lens 120).2.1

/-- One more unit of jitter. -/
theorem bump_le {J : List Int} {k : Nat} (hk : k < J.length) (q : Int) : gI J q ≤ gI (J.set k (J[k] + 1)) q := by
  unfold gI
  rw [List.getD_eq_getElem?_getD, List.getD_eq_getElem?_getD, List.getElem?_set]
  by_cases e : k = q.toNat
  · subst e; simp [hk]; omega
  · rw [if_neg e]; exact Int.le_refl _

theorem laws_FnJitterMore0 (C : List Nat) (hC : ∀ x ∈ C, x < 256) (c : Nat) (hc : C.length ≤ c) : CallWp Try.prog n_laws_FnJitterMore [.sl 0 0 C.length c] [.ro (encByte.row C)] (fun x _ => x = .b true) := by
  refine call_laws_FnJitterMore (by simp) ?_
  simp only [c_laws_FnJitterMore, go_sem, Int.reduceToNat, List.take_nil, Nat.zero_mul, Nat.reduceEqDiff, Nat.reduceAdd, Nat.reduceLT, Nat.reduceLeDiff, Nat.reduceMul, ↓reduceIte, reduceCtorEq]
  refine ⟨fun h => Fin.plain rfl, fun h => ?_⟩
  refine (spec_DrawJitterResponse0 C hC c hc).mono ?_
  rintro x σ' _ ⟨S, J, O, cap, cap', cap3, rfl, rfl, ⟨hS8, hSw⟩, ⟨hJ9, hJw⟩, hO9, hOw⟩
  simp only [go_sem, Int.reduceToNat, List.take_nil, Nat.zero_mul, Nat.reduceEqDiff, Nat.reduceAdd, Nat.reduceLT, Nat.reduceLeDiff, Nat.reduceMul, ↓reduceIte, reduceCtorEq]
  by_cases hv : jitOk S J ∧ ordOk S O
  · obtain ⟨hJ, hO⟩ := hv
    have hR := resps_length S J O O.length
    refine impl_JitterResponse_ (S := S) (J := J) (O := O) (by omega) (by omega) (by omega) (Rd.own rfl) (Rd.own rfl) (Rd.own rfl) (fun hno => absurd ⟨hJ, hO⟩ hno) (fun _ _ d1 => ?_)
    simp only [go_sem, Int.reduceToNat, List.take_nil, Nat.zero_mul, Nat.reduceEqDiff, Nat.reduceAdd, Nat.reduceLT, Nat.reduceLeDiff, Nat.reduceMul, ↓reduceIte, reduceCtorEq]
    refine spec_JitterResponse_ (S := S) (J := J) (O := O) (by omega) (by omega) (by omega) (Rd.own rfl) (Rd.own rfl) (Rd.own rfl) (fun hno => absurd ⟨hJ, hO⟩ hno) (fun _ _ d2 => ?_)
    simp only [go_sem, Int.reduceToNat, List.take_nil, Nat.zero_mul, Nat.reduceEqDiff, Nat.reduceAdd, Nat.reduceLT, Nat.reduceLeDiff, Nat.reduceMul, ↓reduceIte, reduceCtorEq]
    refine laws_sameInts_ (by omega) (Rd.len' rfl hR) (Rd.len' rfl hR) ?_
    simp only [not_true_eq_false, not_false_eq_true, decide_true, decide_false, Bool.not_true, Bool.not_false, false_implies, true_implies, and_true, true_and, Bool.false_eq_true, Bool.true_eq_false, implies_true, Bool.not_not, Classical.not_not, go_sem, Int.reduceToNat, List.take_nil, Nat.zero_mul, Nat.reduceEqDiff, Nat.reduceAdd, Nat.reduceLT, Nat.reduceLeDiff, Nat.reduceMul, ↓reduceIte, reduceCtorEq]
    have hJl := hJ.2.1
    refine ⟨fun h0 => laws_alive_ ?_, fun h0 => ?_⟩
    · simp only [not_true_eq_false, not_false_eq_true, decide_true, decide_false, Bool.not_true, Bool.not_false, false_implies, true_implies, and_true, true_and, Bool.false_eq_true, Bool.true_eq_false, implies_true, Bool.not_not, Classical.not_not, go_sem, Int.reduceToNat, List.take_nil, Nat.zero_mul, Nat.reduceEqDiff, Nat.reduceAdd, Nat.reduceLT, Nat.reduceLeDiff, Nat.reduceMul, ↓reduceIte, reduceCtorEq]
      exact Fin.plain rfl
    have hat : 0 ≤ (C.length : Int) % (S.length : Int) ∧ (C.length : Int) % (S.length : Int) < S.length := ⟨Int.emod_nonneg _ (by omega), Int.emod_lt_of_pos _ (by omega)⟩
    have htm : ((C.length : Int)).tmod (S.length : Int) = (C.length : Int) % (S.length : Int) := Int.tmod_eq_emod_of_nonneg (by omega)
    obtain ⟨k, hk0⟩ := Int.eq_ofNat_of_zero_le hat.1
    rw [hk0] at htm hat
    have hkJ : k < J.length := by omega
    have hjk := hJw _ (List.getElem_mem hkJ)
    have hw : win (encInt.row J) 0 J.length = encInt.row J := by
      simp only [Go.Abs.win, List.drop_zero]
      rw [List.take_of_length_le (by rw [lenI]; omega)]
    simp only [htm, hw, Int.toNat_natCast, rdI hkJ, splI hkJ, lenI, not_true_eq_false, not_false_eq_true, decide_true, decide_false, Bool.not_true, Bool.not_false, false_implies, true_implies, and_true, true_and, Bool.false_eq_true, Bool.true_eq_false, implies_true, Bool.not_not, Classical.not_not, go_sem, Int.reduceToNat, List.take_nil, Nat.zero_mul, Nat.reduceEqDiff, Nat.reduceAdd, Nat.reduceLT, Nat.reduceLeDiff, Nat.reduceMul, ↓reduceIte, reduceCtorEq]
    have hJ2l : (J.set k (J[k] + 1)).length = J.length := List.length_set
    have hz : (List.replicate S.length (0 : Int)).length = S.length := by simp
    have hL := sync_legal hJ.1 (lim := 60) (by omega) (60 : Int).toNat
    have h60 := sync_60 S 60 (60 : Int).toNat
    have hsyn : (¬ (setOk S ∧ (0 : Int) ≤ 60 ∧ (60 : Int) ≤ 120) ∨ sync S 60 (60 : Int).toNat = []) → sync S 60 (60 : Int).toNat = [] := fun h => h.resolve_left fun hn => hn ⟨hJ.1, by omega, by omega⟩
    refine ⟨⟨by omega, by omega, by omega⟩, fun cM hcM => ⟨by omega, by omega, by omega, by omega, by omega, by omega, impl_JitterResponse_ (S := S) (J := J.set k (J[k] + 1)) (O := O) (by omega) (by omega) (by omega) (Rd.own rfl) (Rd.len' rfl hJ2l) (Rd.own rfl) (fun hno => ?_) (fun hJ2 _ d3 => ?_)⟩⟩
    · simp only [not_true_eq_false, not_false_eq_true, decide_true, decide_false, Bool.not_true, Bool.not_false, false_implies, true_implies, and_true, true_and, Bool.false_eq_true, Bool.true_eq_false, implies_true, Bool.not_not, Classical.not_not, go_sem, Int.reduceToNat, List.take_nil, Nat.zero_mul, Nat.reduceEqDiff, Nat.reduceAdd, Nat.reduceLT, Nat.reduceLeDiff, Nat.reduceMul, ↓reduceIte, reduceCtorEq]
      refine loop_count 0 (fun i => ⟨[(3, .sl 1 0 S.length cap), (5, .sl 2 0 O.length cap3), (9, .sn), (10, .i .i64 i)], [.ro (encByte.row C), .rw ty_impl_Task (encTask.row S) (cap * 3), .rw ty_int (encInt.row O) cap3]⟩) (fun _ => True) trivial (Wk.pick [0, 1, 3]) fun i hi _ => ?_
      simp only [l0_laws_FnJitterMore, not_true_eq_false, not_false_eq_true, decide_true, decide_false, Bool.not_true, Bool.not_false, false_implies, true_implies, and_true, true_and, Bool.false_eq_true, Bool.true_eq_false, implies_true, Bool.not_not, Classical.not_not, go_sem, Int.reduceToNat, List.take_nil, Nat.zero_mul, Nat.reduceEqDiff, Nat.reduceAdd, Nat.reduceLT, Nat.reduceLeDiff, Nat.reduceMul, ↓reduceIte, reduceCtorEq]
      refine ⟨fun hlt => absurd hlt (by omega), fun hge => ?_⟩
      refine impl_Synchronous_ (S := S) (lim := 60) (by omega) (Rd.own rfl) (fun hno => ?_) (fun _ hne cS => ?_)
      · have e := hsyn hno
        rw [e] at hL
        simp only [not_true_eq_false, not_false_eq_true, decide_true, decide_false, Bool.not_true, Bool.not_false, false_implies, true_implies, and_true, true_and, Bool.false_eq_true, Bool.true_eq_false, implies_true, Bool.not_not, Classical.not_not, go_sem, Int.reduceToNat, List.take_nil, Nat.zero_mul, Nat.reduceEqDiff, Nat.reduceAdd, Nat.reduceLT, Nat.reduceLeDiff, Nat.reduceMul, ↓reduceIte, reduceCtorEq]
        rw [show rep S.length [AV.i .i64 0] = encInt.row (List.replicate S.length 0) from encInt.rep 0 _]
        refine ⟨by omega, impl_RunJitter_ (S := S) (J := List.replicate S.length 0) (O := O) (L := []) (by omega) (by omega) (by omega) (by simp) (Rd.own rfl) (Rd.len' rfl hz) (Rd.own rfl) (Rd.none (by simp)) (fun hno => absurd ⟨(legal_zero S []).2 hL, hO⟩ hno) (fun _ c1 c2 => ?_)⟩
        simp only [not_true_eq_false, not_false_eq_true, decide_true, decide_false, Bool.not_true, Bool.not_false, false_implies, true_implies, and_true, true_and, Bool.false_eq_true, Bool.true_eq_false, implies_true, Bool.not_not, Classical.not_not, go_sem, Int.reduceToNat, List.take_nil, Nat.zero_mul, Nat.reduceEqDiff, Nat.reduceAdd, Nat.reduceLT, Nat.reduceLeDiff, Nat.reduceMul, ↓reduceIte, reduceCtorEq]
        refine impl_RunFixed_ (S := S) (O := O) (L := []) (by omega) (by omega) (by simp) (Rd.own rfl) (Rd.own rfl) (Rd.none (by simp)) (fun hno => absurd ⟨hO, hL⟩ hno) (fun _ c3 c4 => ?_)
        simp only [not_true_eq_false, not_false_eq_true, decide_true, decide_false, Bool.not_true, Bool.not_false, false_implies, true_implies, and_true, true_and, Bool.false_eq_true, Bool.true_eq_false, implies_true, Bool.not_not, Classical.not_not, go_sem, Int.reduceToNat, List.take_nil, Nat.zero_mul, Nat.reduceEqDiff, Nat.reduceAdd, Nat.reduceLT, Nat.reduceLeDiff, Nat.reduceMul, ↓reduceIte, reduceCtorEq]
        refine laws_sameSchedule_ (X1 := fixRun O []) (Y1 := fixFin O []) (X2 := fixRun O []) (Y2 := fixFin O []) (Rd.len' rfl (fixLenR O [])) (Rd.len' rfl (fixLenF O [])) (Rd.len' rfl (fixLenR O [])) (Rd.len' rfl (fixLenF O [])) (by rw [fixLenR]; omega) (by rw [fixLenF]; simp) ?_
        simp only [not_true_eq_false, not_false_eq_true, decide_true, decide_false, Bool.not_true, Bool.not_false, false_implies, true_implies, and_true, true_and, Bool.false_eq_true, Bool.true_eq_false, implies_true, Bool.not_not, Classical.not_not, go_sem, Int.reduceToNat, List.take_nil, Nat.zero_mul, Nat.reduceEqDiff, Nat.reduceAdd, Nat.reduceLT, Nat.reduceLeDiff, Nat.reduceMul, ↓reduceIte, reduceCtorEq]
        exact Fin.plain rfl
      · generalize sync S 60 (60 : Int).toNat = L at *
        have hFl := fixLenF O L
        simp only [not_true_eq_false, not_false_eq_true, decide_true, decide_false, Bool.not_true, Bool.not_false, false_implies, true_implies, and_true, true_and, Bool.false_eq_true, Bool.true_eq_false, implies_true, Bool.not_not, Classical.not_not, go_sem, Int.reduceToNat, List.take_nil, Nat.zero_mul, Nat.reduceEqDiff, Nat.reduceAdd, Nat.reduceLT, Nat.reduceLeDiff, Nat.reduceMul, ↓reduceIte, reduceCtorEq]
        rw [show rep S.length [AV.i .i64 0] = encInt.row (List.replicate S.length 0) from encInt.rep 0 _]
        refine ⟨by omega, impl_RunJitter_ (S := S) (J := List.replicate S.length 0) (O := O) (L := L) (by omega) (by omega) (by omega) (by omega) (Rd.own rfl) (Rd.len' rfl hz) (Rd.own rfl) (Rd.own rfl) (fun hno => absurd ⟨(legal_zero S L).2 hL, hO⟩ hno) (fun _ c1 c2 => ?_)⟩
        simp only [not_true_eq_false, not_false_eq_true, decide_true, decide_false, Bool.not_true, Bool.not_false, false_implies, true_implies, and_true, true_and, Bool.false_eq_true, Bool.true_eq_false, implies_true, Bool.not_not, Classical.not_not, go_sem, Int.reduceToNat, List.take_nil, Nat.zero_mul, Nat.reduceEqDiff, Nat.reduceAdd, Nat.reduceLT, Nat.reduceLeDiff, Nat.reduceMul, ↓reduceIte, reduceCtorEq]
        refine impl_RunFixed_ (S := S) (O := O) (L := L) (by omega) (by omega) (by omega) (Rd.own rfl) (Rd.own rfl) (Rd.own rfl) (fun hno => absurd ⟨hO, hL⟩ hno) (fun _ c3 c4 => ?_)
        simp only [not_true_eq_false, not_false_eq_true, decide_true, decide_false, Bool.not_true, Bool.not_false, false_implies, true_implies, and_true, true_and, Bool.false_eq_true, Bool.true_eq_false, implies_true, Bool.not_not, Classical.not_not, go_sem, Int.reduceToNat, List.take_nil, Nat.zero_mul, Nat.reduceEqDiff, Nat.reduceAdd, Nat.reduceLT, Nat.reduceLeDiff, Nat.reduceMul, ↓reduceIte, reduceCtorEq]
        refine laws_sameSchedule_ (X1 := fixRun O L) (Y1 := fixFin O L) (X2 := fixRun O L) (Y2 := fixFin O L) (Rd.len' rfl (fixLenR O L)) (Rd.len' rfl hFl) (Rd.len' rfl (fixLenR O L)) (Rd.len' rfl hFl) (by rw [fixLenR]; omega) (by omega) ?_
        simp only [not_true_eq_false, not_false_eq_true, decide_true, decide_false, Bool.not_true, Bool.not_false, false_implies, true_implies, and_true, true_and, Bool.false_eq_true, Bool.true_eq_false, implies_true, Bool.not_not, Classical.not_not, go_sem, Int.reduceToNat, List.take_nil, Nat.zero_mul, Nat.reduceEqDiff, Nat.reduceAdd, Nat.reduceLT, Nat.reduceLeDiff, Nat.reduceMul, ↓reduceIte, reduceCtorEq]
        exact Fin.plain rfl
    · have hR2 := resps_length S (J.set k (J[k] + 1)) O O.length
      simp only [not_true_eq_false, not_false_eq_true, decide_true, decide_false, Bool.not_true, Bool.not_false, false_implies, true_implies, and_true, true_and, Bool.false_eq_true, Bool.true_eq_false, implies_true, Bool.not_not, Classical.not_not, go_sem, Int.reduceToNat, List.take_nil, Nat.zero_mul, Nat.reduceEqDiff, Nat.reduceAdd, Nat.reduceLT, Nat.reduceLeDiff, Nat.reduceMul, ↓reduceIte, reduceCtorEq]
      refine loop_count S.length (fun i => ⟨[(3, .sl 1 0 S.length cap), (5, .sl 2 0 O.length cap3), (6, .sl 3 0 S.length d1), (9, .sl 4 0 S.length d3), (10, .i .i64 i)], [.ro (encByte.row C), .rw ty_impl_Task (encTask.row S) (cap * 3), .rw ty_int (encInt.row O) cap3, .rw ty_int (encInt.row (resps S J O O.length)) d1, .rw ty_int (encInt.row (resps S (J.set k (J[k] + 1)) O O.length)) d3]⟩) (fun _ => True) trivial (Wk.pick [0, 1, 3, 4, 8]) fun i hi _ => ?_
      simp only [l0_laws_FnJitterMore, not_true_eq_false, not_false_eq_true, decide_true, decide_false, Bool.not_true, Bool.not_false, false_implies, true_implies, and_true, true_and, Bool.false_eq_true, Bool.true_eq_false, implies_true, Bool.not_not, Classical.not_not, go_sem, Int.reduceToNat, List.take_nil, Nat.zero_mul, Nat.reduceEqDiff, Nat.reduceAdd, Nat.reduceLT, Nat.reduceLeDiff, Nat.reduceMul, ↓reduceIte, reduceCtorEq]
      refine ⟨fun hlt => ?_, fun hge => ?_⟩
      · have hiR : i < (resps S J O O.length).length := by omega
        have hiR2 : i < (resps S (J.set k (J[k] + 1)) O O.length).length := by omega
        have f1 := resps_range hJ hO (i := i) (by omega) (by omega)
        have f2 := resps_range hJ2 hO (i := i) (by omega) (by omega)
        have f3 := resps_mono hJ hJ2 hO (fun q => bump_le hkJ q) (i := i) (by omega) (by omega)
        rw [gI_nat hiR] at f1 f3
        rw [gI_nat hiR2] at f2 f3
        simp only [rdI hiR, rdI hiR2, lenI, hR, hR2, not_true_eq_false, not_false_eq_true, decide_true, decide_false, Bool.not_true, Bool.not_false, false_implies, true_implies, and_true, true_and, Bool.false_eq_true, Bool.true_eq_false, implies_true, Bool.not_not, Classical.not_not, go_sem, Int.reduceToNat, List.take_nil, Nat.zero_mul, Nat.reduceEqDiff, Nat.reduceAdd, Nat.reduceLT, Nat.reduceLeDiff, Nat.reduceMul, ↓reduceIte, reduceCtorEq]
        repeat' first | omega | (exfalso; omega) | exact Wk.pick [0, 1, 2, 3, 4] | refine ⟨?_, ?_⟩ | intro _
      · refine impl_Synchronous_ (S := S) (lim := 60) (by omega) (Rd.own rfl) (fun hno => ?_) (fun _ hne cS => ?_)
        · have e := hsyn hno
          rw [e] at hL
          simp only [not_true_eq_false, not_false_eq_true, decide_true, decide_false, Bool.not_true, Bool.not_false, false_implies, true_implies, and_true, true_and, Bool.false_eq_true, Bool.true_eq_false, implies_true, Bool.not_not, Classical.not_not, go_sem, Int.reduceToNat, List.take_nil, Nat.zero_mul, Nat.reduceEqDiff, Nat.reduceAdd, Nat.reduceLT, Nat.reduceLeDiff, Nat.reduceMul, ↓reduceIte, reduceCtorEq]
          rw [show rep S.length [AV.i .i64 0] = encInt.row (List.replicate S.length 0) from encInt.rep 0 _]
          refine ⟨by omega, impl_RunJitter_ (S := S) (J := List.replicate S.length 0) (O := O) (L := []) (by omega) (by omega) (by omega) (by simp) (Rd.own rfl) (Rd.len' rfl hz) (Rd.own rfl) (Rd.none (by simp)) (fun hno => absurd ⟨(legal_zero S []).2 hL, hO⟩ hno) (fun _ c1 c2 => ?_)⟩
          simp only [not_true_eq_false, not_false_eq_true, decide_true, decide_false, Bool.not_true, Bool.not_false, false_implies, true_implies, and_true, true_and, Bool.false_eq_true, Bool.true_eq_false, implies_true, Bool.not_not, Classical.not_not, go_sem, Int.reduceToNat, List.take_nil, Nat.zero_mul, Nat.reduceEqDiff, Nat.reduceAdd, Nat.reduceLT, Nat.reduceLeDiff, Nat.reduceMul, ↓reduceIte, reduceCtorEq]
          refine impl_RunFixed_ (S := S) (O := O) (L := []) (by omega) (by omega) (by simp) (Rd.own rfl) (Rd.own rfl) (Rd.none (by simp)) (fun hno => absurd ⟨hO, hL⟩ hno) (fun _ c3 c4 => ?_)
          simp only [not_true_eq_false, not_false_eq_true, decide_true, decide_false, Bool.not_true, Bool.not_false, false_implies, true_implies, and_true, true_and, Bool.false_eq_true, Bool.true_eq_false, implies_true, Bool.not_not, Classical.not_not, go_sem, Int.reduceToNat, List.take_nil, Nat.zero_mul, Nat.reduceEqDiff, Nat.reduceAdd, Nat.reduceLT, Nat.reduceLeDiff, Nat.reduceMul, ↓reduceIte, reduceCtorEq]
          refine laws_sameSchedule_ (X1 := fixRun O []) (Y1 := fixFin O []) (X2 := fixRun O []) (Y2 := fixFin O []) (Rd.len' rfl (fixLenR O [])) (Rd.len' rfl (fixLenF O [])) (Rd.len' rfl (fixLenR O [])) (Rd.len' rfl (fixLenF O [])) (by rw [fixLenR]; omega) (by rw [fixLenF]; simp) ?_
          simp only [not_true_eq_false, not_false_eq_true, decide_true, decide_false, Bool.not_true, Bool.not_false, false_implies, true_implies, and_true, true_and, Bool.false_eq_true, Bool.true_eq_false, implies_true, Bool.not_not, Classical.not_not, go_sem, Int.reduceToNat, List.take_nil, Nat.zero_mul, Nat.reduceEqDiff, Nat.reduceAdd, Nat.reduceLT, Nat.reduceLeDiff, Nat.reduceMul, ↓reduceIte, reduceCtorEq]
          exact Fin.plain rfl
        · generalize sync S 60 (60 : Int).toNat = L at *
          have hFl := fixLenF O L
          simp only [not_true_eq_false, not_false_eq_true, decide_true, decide_false, Bool.not_true, Bool.not_false, false_implies, true_implies, and_true, true_and, Bool.false_eq_true, Bool.true_eq_false, implies_true, Bool.not_not, Classical.not_not, go_sem, Int.reduceToNat, List.take_nil, Nat.zero_mul, Nat.reduceEqDiff, Nat.reduceAdd, Nat.reduceLT, Nat.reduceLeDiff, Nat.reduceMul, ↓reduceIte, reduceCtorEq]
          rw [show rep S.length [AV.i .i64 0] = encInt.row (List.replicate S.length 0) from encInt.rep 0 _]
          refine ⟨by omega, impl_RunJitter_ (S := S) (J := List.replicate S.length 0) (O := O) (L := L) (by omega) (by omega) (by omega) (by omega) (Rd.own rfl) (Rd.len' rfl hz) (Rd.own rfl) (Rd.own rfl) (fun hno => absurd ⟨(legal_zero S L).2 hL, hO⟩ hno) (fun _ c1 c2 => ?_)⟩
          simp only [not_true_eq_false, not_false_eq_true, decide_true, decide_false, Bool.not_true, Bool.not_false, false_implies, true_implies, and_true, true_and, Bool.false_eq_true, Bool.true_eq_false, implies_true, Bool.not_not, Classical.not_not, go_sem, Int.reduceToNat, List.take_nil, Nat.zero_mul, Nat.reduceEqDiff, Nat.reduceAdd, Nat.reduceLT, Nat.reduceLeDiff, Nat.reduceMul, ↓reduceIte, reduceCtorEq]
          refine impl_RunFixed_ (S := S) (O := O) (L := L) (by omega) (by omega) (by omega) (Rd.own rfl) (Rd.own rfl) (Rd.own rfl) (fun hno => absurd ⟨hO, hL⟩ hno) (fun _ c3 c4 => ?_)
          simp only [not_true_eq_false, not_false_eq_true, decide_true, decide_false, Bool.not_true, Bool.not_false, false_implies, true_implies, and_true, true_and, Bool.false_eq_true, Bool.true_eq_false, implies_true, Bool.not_not, Classical.not_not, go_sem, Int.reduceToNat, List.take_nil, Nat.zero_mul, Nat.reduceEqDiff, Nat.reduceAdd, Nat.reduceLT, Nat.reduceLeDiff, Nat.reduceMul, ↓reduceIte, reduceCtorEq]
          refine laws_sameSchedule_ (X1 := fixRun O L) (Y1 := fixFin O L) (X2 := fixRun O L) (Y2 := fixFin O L) (Rd.len' rfl (fixLenR O L)) (Rd.len' rfl hFl) (Rd.len' rfl (fixLenR O L)) (Rd.len' rfl hFl) (by rw [fixLenR]; omega) (by omega) ?_
          simp only [not_true_eq_false, not_false_eq_true, decide_true, decide_false, Bool.not_true, Bool.not_false, false_implies, true_implies, and_true, true_and, Bool.false_eq_true, Bool.true_eq_false, implies_true, Bool.not_not, Classical.not_not, go_sem, Int.reduceToNat, List.take_nil, Nat.zero_mul, Nat.reduceEqDiff, Nat.reduceAdd, Nat.reduceLT, Nat.reduceLeDiff, Nat.reduceMul, ↓reduceIte, reduceCtorEq]
          exact Fin.plain rfl
  · refine impl_JitterResponse_ (S := S) (J := J) (O := O) (by omega) (by omega) (by omega) (Rd.own rfl) (Rd.own rfl) (Rd.own rfl) (fun _ => ?_) (fun h1 h2 => absurd ⟨h1, h2⟩ hv)
    simp only [go_sem, Int.reduceToNat, List.take_nil, Nat.zero_mul, Nat.reduceEqDiff, Nat.reduceAdd, Nat.reduceLT, Nat.reduceLeDiff, Nat.reduceMul, ↓reduceIte, reduceCtorEq]
    refine spec_JitterResponse_ (S := S) (J := J) (O := O) (by omega) (by omega) (by omega) (Rd.own rfl) (Rd.own rfl) (Rd.own rfl) (fun _ d2 => ?_) (fun h1 h2 => absurd ⟨h1, h2⟩ hv)
    simp only [go_sem, Int.reduceToNat, List.take_nil, Nat.zero_mul, Nat.reduceEqDiff, Nat.reduceAdd, Nat.reduceLT, Nat.reduceLeDiff, Nat.reduceMul, ↓reduceIte, reduceCtorEq]
    refine laws_sameInts_ (L := []) (M := []) (by simp) (Rd.none (by simp)) (Rd.len' rfl rfl) ?_
    simp only [not_true_eq_false, not_false_eq_true, decide_true, decide_false, Bool.not_true, Bool.not_false, false_implies, true_implies, and_true, true_and, Bool.false_eq_true, Bool.true_eq_false, implies_true, Bool.not_not, Classical.not_not, go_sem, Int.reduceToNat, List.take_nil, Nat.zero_mul, Nat.reduceEqDiff, Nat.reduceAdd, Nat.reduceLT, Nat.reduceLeDiff, Nat.reduceMul, ↓reduceIte, reduceCtorEq]
    first | refine laws_alive_ ?_ | refine ⟨fun _ => laws_alive_ ?_, fun h => absurd (by decide) h⟩
    simp only [not_true_eq_false, not_false_eq_true, decide_true, decide_false, Bool.not_true, Bool.not_false, false_implies, true_implies, and_true, true_and, Bool.false_eq_true, Bool.true_eq_false, implies_true, Bool.not_not, Classical.not_not, go_sem, Int.reduceToNat, List.take_nil, Nat.zero_mul, Nat.reduceEqDiff, Nat.reduceAdd, Nat.reduceLT, Nat.reduceLeDiff, Nat.reduceMul, ↓reduceIte, reduceCtorEq]
    exact Fin.plain rfl

theorem c_FnJitterMore (C : List Nat) (c : Nat) (hC : ∀ x ∈ C, x < 256) (_ : C.length * 1 ≤ 140737488351232) (hc : C.length ≤ c) : CallWp Try.prog n_laws_FnJitterMore [.sl 0 0 C.length c] [.ro (encByte.row C)] (fun x _ => x = .b true) := laws_FnJitterMore0 C hC c hc
end Go.Proofs.Ytdmoafmgeipenaa
