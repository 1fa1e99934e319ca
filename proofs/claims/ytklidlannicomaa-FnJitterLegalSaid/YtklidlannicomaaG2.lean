/- The law FnJitterLegal answers true: over the abstract heap. -/
import Derived.Test.YtklidlannicomaaF3
import Derived.Test.YtklidlannicomaaE4
import Derived.Test.YtklidlannicomaaD4
import Derived.Test.YtklidlannicomaaM10
namespace Go.Proofs.Ytklidlannicomaa
open Go.Abs Go.Ds
set_option linter.unusedSimpArgs false
set_option linter.unusedVariables false
set_option maxRecDepth 20000
set_option maxHeartbeats 1000000

theorem spec_DrawJitterLegal0 (C : List Nat) (hC : ∀ x ∈ C, x < 256) (c : Nat) (hc : C.length ≤ c) : CallWp Try.prog n_spec_DrawJitterLegal [.sl 0 0 C.length c] [.ro (encByte.row C)] (fun x σ' => ∃ (S : List Task) (J : List Int) (L : List Job) (cap cap3 cap' : Nat),
    x = .tup [.sl 1 0 S.length cap, .sl 2 0 J.length cap3, .sl 3 0 L.length cap'] ∧ σ' = [.ro (encByte.row C), .rw ty_impl_Task (encTask.row S) (cap * 3), .rw ty_int (encInt.row J) cap3, .rw ty_impl_Job (encJob.row L) (cap' * 4)] ∧ (S.length ≤ 8 ∧ ∀ t ∈ S, wildT t) ∧ J.length ≤ 9 ∧ L.length ≤ 62) := by
  refine call_spec_DrawJitterLegal (by simp) ?_
  simp only [c_spec_DrawJitterLegal, go_sem, Int.reduceToNat, List.take_nil, Nat.zero_mul, Nat.reduceEqDiff, Nat.reduceAdd, Nat.reduceLT, Nat.reduceLeDiff, Nat.reduceMul, ↓reduceIte, reduceCtorEq]
  refine (spec_l20Open0 C c hc).mono ?_
  rintro x σ' _ ⟨rfl, rfl⟩
  simp only [go_sem, Int.reduceToNat, List.take_nil, Nat.zero_mul, Nat.reduceEqDiff, Nat.reduceAdd, Nat.reduceLT, Nat.reduceLeDiff, Nat.reduceMul, ↓reduceIte, reduceCtorEq]
  refine spec_l20Set_ (Rdr.take (τ := [])) (Code.take hC) (by omega) _ (by omega) fun S cap p1 h11 h12 hS8 hS _ => ?_
  simp only [go_sem, Int.reduceToNat, List.take_nil, Nat.zero_mul, Nat.reduceEqDiff, Nat.reduceAdd, Nat.reduceLT, Nat.reduceLeDiff, Nat.reduceMul, ↓reduceIte, reduceCtorEq]
  refine spec_l20Jitter_ (Rdr.take (τ := [_])) (Code.take hC) (by omega) hS8 hS (Sl.own rfl (by decide)) _ (by omega) fun J cap3 p3 h31 h32 hJ9 hJ => ?_
  simp only [go_sem, Int.reduceToNat, List.take_nil, Nat.zero_mul, Nat.reduceEqDiff, Nat.reduceAdd, Nat.reduceLT, Nat.reduceLeDiff, Nat.reduceMul, ↓reduceIte, reduceCtorEq]
  refine spec_SetValid_ (L := S) (by omega) (Rd.own rfl) ?_
  simp only [not_true_eq_false, not_false_eq_true, decide_true, decide_false, Bool.not_true, Bool.not_false, false_implies, true_implies, and_true, true_and, Bool.false_eq_true, Bool.true_eq_false, implies_true, Bool.not_not, Classical.not_not, go_sem, Int.reduceToNat, List.take_nil, Nat.zero_mul, Nat.reduceEqDiff, Nat.reduceAdd, Nat.reduceLT, Nat.reduceLeDiff, Nat.reduceMul, ↓reduceIte, reduceCtorEq]
  refine ⟨fun hv => ?_, fun hv => ?_⟩
  · exact Fin.pick [0, 2, 3, 4] (.tup [.sl 1 0 S.length cap, .sl 2 0 J.length cap3, .sl 3 0 0 0]) [.ro (encByte.row C), .rw ty_impl_Task (encTask.row S) (cap * 3), .rw ty_int (encInt.row J) cap3, .rw ty_impl_Job (encJob.row []) (0 * 4)] ⟨S, J, [], cap, cap3, 0, rfl, rfl, ⟨hS8, hS⟩, hJ9, by simp⟩
  · refine spec_l20Late_ (Rdr.take (τ := [_, _])) (Code.take hC) (by omega) hv ⟨hJ9, hJ⟩ (Sl.own rfl (by decide)) (Sl.own rfl (by decide)) _ (by omega) fun L cap' p2 h21 h22 hL62 hL => ?_
    simp only [go_sem, Int.reduceToNat, List.take_nil, Nat.zero_mul, Nat.reduceEqDiff, Nat.reduceAdd, Nat.reduceLT, Nat.reduceLeDiff, Nat.reduceMul, ↓reduceIte, reduceCtorEq]
    exact Fin.pick [0, 2, 3, 4] (.tup [.sl 1 0 S.length cap, .sl 2 0 J.length cap3, .sl 3 0 L.length cap']) _ ⟨S, J, L, cap, cap3, cap', rfl, rfl, ⟨hS8, hS⟩, hJ9, hL62⟩

theorem Rd.own' {α : Type} {E : Enc α} {σ : List AB} {n len cap : Nat} {L : List α} (h : cellsOf σ n = some (E.row L)) (hl : L.length = len) : Rd E σ (.sl n 0 len cap) L := by subst hl; exact Rd.own h

theorem laws_FnJitterLegal0 (C : List Nat) (hC : ∀ x ∈ C, x < 256) (c : Nat) (hc : C.length ≤ c) : CallWp Try.prog n_laws_FnJitterLegal [.sl 0 0 C.length c] [.ro (encByte.row C)] (fun x _ => x = .b true) := by
  refine call_laws_FnJitterLegal (by simp) ?_
  simp only [c_laws_FnJitterLegal, go_sem, Int.reduceToNat, List.take_nil, Nat.zero_mul, Nat.reduceEqDiff, Nat.reduceAdd, Nat.reduceLT, Nat.reduceLeDiff, Nat.reduceMul, ↓reduceIte, reduceCtorEq]
  refine ⟨fun h => Fin.plain rfl, fun h => ?_⟩
  refine (spec_DrawJitterLegal0 C hC c hc).mono ?_
  rintro x σ' _ ⟨S, J, L, cap, cap3, cap', rfl, rfl, ⟨hS8, hSw⟩, hJ9, hL62⟩
  simp only [go_sem, Int.reduceToNat, List.take_nil, Nat.zero_mul, Nat.reduceEqDiff, Nat.reduceAdd, Nat.reduceLT, Nat.reduceLeDiff, Nat.reduceMul, ↓reduceIte, reduceCtorEq]
  refine impl_JitterLegal_ (S := S) (J := J) (L := L) (by omega) (by omega) (by omega) (Rd.own rfl) (Rd.own rfl) (Rd.own rfl) ?_
  simp only [go_sem, Int.reduceToNat, List.take_nil, Nat.zero_mul, Nat.reduceEqDiff, Nat.reduceAdd, Nat.reduceLT, Nat.reduceLeDiff, Nat.reduceMul, ↓reduceIte, reduceCtorEq]
  refine spec_JitterLegal_ (S := S) (J := J) (L := L) (by omega) (by omega) (by omega) (Rd.own rfl) (Rd.own rfl) (Rd.own rfl) ?_
  simp only [not_true_eq_false, not_false_eq_true, decide_true, decide_false, Bool.not_true, Bool.not_false, false_implies, true_implies, and_true, true_and, Bool.false_eq_true, Bool.true_eq_false, implies_true, Bool.not_not, Classical.not_not, go_sem, Int.reduceToNat, List.take_nil, Nat.zero_mul, Nat.reduceEqDiff, Nat.reduceAdd, Nat.reduceLT, Nat.reduceLeDiff, Nat.reduceMul, ↓reduceIte, reduceCtorEq]
  have hz : (List.replicate S.length (0 : Int)).length = S.length := by simp
  have z := legal_zero S L
  rw [show rep S.length [AV.i .i64 0] = encInt.row (List.replicate S.length 0) from encInt.rep 0 _]
  refine ⟨by omega, impl_JitterLegal_ (S := S) (J := List.replicate S.length 0) (L := L) (by omega) (by omega) (by omega) (Rd.own rfl) (Rd.own' rfl hz) (Rd.own rfl) ?_⟩
  simp only [not_true_eq_false, not_false_eq_true, decide_true, decide_false, Bool.not_true, Bool.not_false, false_implies, true_implies, and_true, true_and, Bool.false_eq_true, Bool.true_eq_false, implies_true, Bool.not_not, Classical.not_not, go_sem, Int.reduceToNat, List.take_nil, Nat.zero_mul, Nat.reduceEqDiff, Nat.reduceAdd, Nat.reduceLT, Nat.reduceLeDiff, Nat.reduceMul, ↓reduceIte, reduceCtorEq]
  refine impl_JobsLegal_ (S := S) (L := L) (by omega) (by omega) (Rd.own rfl) (Rd.own rfl) ?_
  have ez : decide (jitLegal S (List.replicate S.length 0) L) = decide (jobsLegal S L) := decide_eq_decide.2 z
  simp only [ez, not_true_eq_false, not_false_eq_true, decide_true, decide_false, Bool.not_true, Bool.not_false, false_implies, true_implies, and_true, true_and, Bool.false_eq_true, Bool.true_eq_false, implies_true, Bool.not_not, Classical.not_not, go_sem, Int.reduceToNat, List.take_nil, Nat.zero_mul, Nat.reduceEqDiff, Nat.reduceAdd, Nat.reduceLT, Nat.reduceLeDiff, Nat.reduceMul, ↓reduceIte, reduceCtorEq]
  refine ⟨fun hj => ?_, fun hj => ?_⟩
  · refine laws_alive_ ?_
    simp only [not_true_eq_false, not_false_eq_true, decide_true, decide_false, Bool.not_true, Bool.not_false, false_implies, true_implies, and_true, true_and, Bool.false_eq_true, Bool.true_eq_false, implies_true, Bool.not_not, Classical.not_not, go_sem, Int.reduceToNat, List.take_nil, Nat.zero_mul, Nat.reduceEqDiff, Nat.reduceAdd, Nat.reduceLT, Nat.reduceLeDiff, Nat.reduceMul, ↓reduceIte, reduceCtorEq]
    exact Fin.plain rfl
  · have hml : (mostJ S).length = S.length := by simp [mostJ]
    refine loop_intro (fun i : Nat × Nat => ⟨[(3, .sl 1 0 S.length cap), (5, .sl 3 0 L.length cap'), (7, .sl 4 0 i.2 i.1), (8, .i .i64 i.2)], [.ro (encByte.row C), .rw ty_impl_Task (encTask.row S) (cap * 3), .rw ty_int (encInt.row J) cap3, .rw ty_impl_Job (encJob.row L) (cap' * 4), .rw ty_int (encInt.row ((mostJ S).take i.2)) i.1]⟩) (fun i => i.2 ≤ S.length) (fun i => S.length - i.2) (0, 0) (Nat.zero_le _) (Wk.pick [0, 1, 2, 3, 5]) ?_
    rintro ⟨capk, k⟩ hk
    simp only at hk
    simp only [l0_laws_FnJitterLegal, not_true_eq_false, not_false_eq_true, decide_true, decide_false, Bool.not_true, Bool.not_false, false_implies, true_implies, and_true, true_and, Bool.false_eq_true, Bool.true_eq_false, implies_true, Bool.not_not, Classical.not_not, go_sem, Int.reduceToNat, List.take_nil, Nat.zero_mul, Nat.reduceEqDiff, Nat.reduceAdd, Nat.reduceLT, Nat.reduceLeDiff, Nat.reduceMul, ↓reduceIte, reduceCtorEq]
    refine ⟨fun hlt => ?_, fun hge => ?_⟩
    · have hw := hSw _ (List.getElem_mem hlt)
      unfold wildT at hw
      have hkm : k < (mostJ S).length := by omega
      have em : (mostJ S)[k] = S[k].D - S[k].C := by simp [mostJ]
      simp only [rdT0 hlt, rdT1 hlt, lenT, lenI, List.length_take, hml, Nat.min_eq_left hk, not_true_eq_false, not_false_eq_true, decide_true, decide_false, Bool.not_true, Bool.not_false, false_implies, true_implies, and_true, true_and, Bool.false_eq_true, Bool.true_eq_false, implies_true, Bool.not_not, Classical.not_not, go_sem, Int.reduceToNat, List.take_nil, Nat.zero_mul, Nat.reduceEqDiff, Nat.reduceAdd, Nat.reduceLT, Nat.reduceLeDiff, Nat.reduceMul, ↓reduceIte, reduceCtorEq]
      have e1 : List.take k (encInt.row ((mostJ S).take k)) ++ [AV.i IntKind.i64 (S[k].D - S[k].C)] = encInt.row ((mostJ S).take (k + 1)) := by
        rw [List.take_of_length_le (by rw [lenI, List.length_take]; omega), List.take_succ_eq_append_getElem hkm, em, appI]
      simp only [e1]
      repeat refine ⟨by omega, ?_⟩
      intro capn hcapn
      repeat refine ⟨by omega, ?_⟩
      exact ⟨(capn, k + 1), ⟨by simp only; omega, by simp only; omega⟩, Wk.pick [0, 1, 2, 3, 6]⟩
    · have ek : k = S.length := by omega
      subst ek
      rw [show (mostJ S).take S.length = mostJ S from List.take_of_length_le (by omega)]
      refine impl_JitterLegal_ (S := S) (J := mostJ S) (L := L) (by omega) (by omega) (by omega) (Rd.own rfl) (Rd.own' rfl hml) (Rd.own rfl) ?_
      simp only [legal_most hj, not_true_eq_false, not_false_eq_true, decide_true, decide_false, Bool.not_true, Bool.not_false, false_implies, true_implies, and_true, true_and, Bool.false_eq_true, Bool.true_eq_false, implies_true, Bool.not_not, Classical.not_not, go_sem, Int.reduceToNat, List.take_nil, Nat.zero_mul, Nat.reduceEqDiff, Nat.reduceAdd, Nat.reduceLT, Nat.reduceLeDiff, Nat.reduceMul, ↓reduceIte, reduceCtorEq]
      refine laws_alive_ ?_
      simp only [not_true_eq_false, not_false_eq_true, decide_true, decide_false, Bool.not_true, Bool.not_false, false_implies, true_implies, and_true, true_and, Bool.false_eq_true, Bool.true_eq_false, implies_true, Bool.not_not, Classical.not_not, go_sem, Int.reduceToNat, List.take_nil, Nat.zero_mul, Nat.reduceEqDiff, Nat.reduceAdd, Nat.reduceLT, Nat.reduceLeDiff, Nat.reduceMul, ↓reduceIte, reduceCtorEq]
      exact Fin.plain rfl

theorem c_FnJitterLegal (C : List Nat) (c : Nat) (hC : ∀ x ∈ C, x < 256) (_ : C.length * 1 ≤ 140737488351232) (hc : C.length ≤ c) : CallWp Try.prog n_laws_FnJitterLegal [.sl 0 0 C.length c] [.ro (encByte.row C)] (fun x _ => x = .b true) := laws_FnJitterLegal0 C hC c hc
end Go.Proofs.Ytklidlannicomaa
