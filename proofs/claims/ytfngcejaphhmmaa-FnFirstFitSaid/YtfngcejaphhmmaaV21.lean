/- The law FnFirstFit answers true: over the abstract heap. -/
import Derived.Test.YtfngcejaphhmmaaS29
namespace Go.Proofs.Ytfngcejaphhmmaa
open Go.Abs Go.Ds
set_option linter.unusedSimpArgs false
set_option linter.unusedVariables false
set_option maxRecDepth 20000
set_option maxHeartbeats 2000000

theorem Rd.nul {α : Type} {E : Enc α} {σ : List AB} (h : 0 < σ.length) : Rd E σ .sn [] := .inr ⟨rfl, rfl, h⟩
theorem Rd.empty {α : Type} {E : Enc α} {σ : List AB} {n cap : Nat} (h : cellsOf σ n = some []) : Rd E σ (.sl n 0 0 cap) [] := Rd.owL (L := []) h rfl

theorem laws_FnFirstFit0 (C : List Nat) (hC : ∀ x ∈ C, x < 256) (c : Nat) (hc : C.length ≤ c) : CallWp Try.prog n_laws_FnFirstFit [.sl 0 0 C.length c] [.ro (encByte.row C)] (fun x _ => x = .b true) := by
  refine call_laws_FnFirstFit (by simp) ?_
  simp only [c_laws_FnFirstFit, go_sem, Int.reduceToNat, List.take_nil, Nat.zero_mul, Nat.reduceEqDiff, Nat.reduceAdd, Nat.reduceLT, Nat.reduceLeDiff, Nat.reduceMul, ↓reduceIte, reduceCtorEq]
  refine ⟨fun h => Fin.plain rfl, fun h => ?_⟩
  refine (spec_DrawFirstFit0 C hC c hc).mono ?_
  rintro x σ' _ ⟨S, cap, m, rfl, rfl, hS8, hm⟩
  simp only [go_sem, Int.reduceToNat, List.take_nil, Nat.zero_mul, Nat.reduceEqDiff, Nat.reduceAdd, Nat.reduceLT, Nat.reduceLeDiff, Nat.reduceMul, ↓reduceIte, reduceCtorEq]
  have hone : ∀ {x : AV} {τ : List AB} {σ : List AB}, FFI σ.length S 1 x τ → (∃ (A : List Int) (c r : Nat), x = .tup [.sl σ.length 0 A.length c, .b true] ∧ τ = [.rw ty_int (encInt.row A) r] ∧ decide (feas S) = true) ∨ (x = .tup [.sn, .b false] ∧ τ = [] ∧ decide (feas S) = false) := by
    rintro x τ σ (⟨A, c, r, rfl, rfl, h1, h2⟩ | ⟨rfl, rfl, h⟩)
    · exact .inl ⟨A, c, r, rfl, rfl, decide_eq_true ((FFP.one h1.1 h2).1 rfl)⟩
    · refine .inr ⟨rfl, rfl, decide_eq_false fun hf => ?_⟩
      have := (FFP.one hf.1 (h ⟨hf.1, by omega, by omega⟩)).2 hf
      cases this
  refine impl_FirstFit_ (S := S) (by omega) (Rd.own rfl) fun x τ hx => ?_
  rcases hx with ⟨A, c1, r1, rfl, rfl, hok, hA⟩ | ⟨rfl, rfl, hno⟩
  · simp only [go_sem, Int.reduceToNat, List.take_nil, Nat.zero_mul, Nat.reduceEqDiff, Nat.reduceAdd, Nat.reduceLT, Nat.reduceLeDiff, Nat.reduceMul, ↓reduceIte, reduceCtorEq]
    refine spec_FirstFit_ (S := S) (by omega) (Rd.own rfl) fun x τ hx => ?_
    rcases hx with ⟨A', c2, r2, rfl, rfl, _, hA'⟩ | ⟨rfl, rfl, hno⟩
    rotate_left
    · have := (hA.same (hno hok)).1; cases this
    obtain ⟨_, rfl⟩ := hA.same hA'
    rcases hA with ⟨_, hA, hAl⟩ | ⟨h, _⟩
    rotate_left
    · cases h
    have hS := hok.1
    simp only [not_true_eq_false, not_false_eq_true, decide_true, decide_false, Bool.not_true, Bool.not_false, false_implies, true_implies, and_true, true_and, Bool.false_eq_true, Bool.true_eq_false, implies_true, Bool.not_not, Classical.not_not, go_sem, Int.reduceToNat, List.take_nil, Nat.zero_mul, Nat.reduceEqDiff, Nat.reduceAdd, Nat.reduceLT, Nat.reduceLeDiff, Nat.reduceMul, ↓reduceIte, reduceCtorEq]
    refine laws_sameInts_ (L := A) (M := A) (by omega) (Rd.own rfl) (Rd.own rfl) ?_
    simp only [not_true_eq_false, not_false_eq_true, decide_true, decide_false, Bool.not_true, Bool.not_false, false_implies, true_implies, and_true, true_and, Bool.false_eq_true, Bool.true_eq_false, implies_true, Bool.not_not, Classical.not_not, go_sem, Int.reduceToNat, List.take_nil, Nat.zero_mul, Nat.reduceEqDiff, Nat.reduceAdd, Nat.reduceLT, Nat.reduceLeDiff, Nat.reduceMul, ↓reduceIte, reduceCtorEq]
    refine impl_FirstFit_ (S := S) (by omega) (Rd.own rfl) fun x τ hx => ?_
    rcases hone hx with ⟨A1, c3, r3, rfl, rfl, hf⟩ | ⟨rfl, rfl, hf⟩
    all_goals
      simp only [not_true_eq_false, not_false_eq_true, decide_true, decide_false, Bool.not_true, Bool.not_false, false_implies, true_implies, and_true, true_and, Bool.false_eq_true, Bool.true_eq_false, implies_true, Bool.not_not, Classical.not_not, go_sem, Int.reduceToNat, List.take_nil, Nat.zero_mul, Nat.reduceEqDiff, Nat.reduceAdd, Nat.reduceLT, Nat.reduceLeDiff, Nat.reduceMul, ↓reduceIte, reduceCtorEq]
      refine impl_EdfFeasible_ (S := S) (by omega) (Rd.own rfl) ?_
      rw [hf]
      simp only [not_true_eq_false, not_false_eq_true, decide_true, decide_false, Bool.not_true, Bool.not_false, false_implies, true_implies, and_true, true_and, Bool.false_eq_true, Bool.true_eq_false, implies_true, Bool.not_not, Classical.not_not, go_sem, Int.reduceToNat, List.take_nil, Nat.zero_mul, Nat.reduceEqDiff, Nat.reduceAdd, Nat.reduceLT, Nat.reduceLeDiff, Nat.reduceMul, ↓reduceIte, reduceCtorEq]
      refine loop_count S.length (fun k => ⟨[(3, .sl 1 0 S.length cap), (4, .i .i64 m), (5, .sl 2 0 A.length c1), (11, .i .i64 k)], [.ro (encByte.row C), .rw ty_impl_Task (encTask.row S) (cap * 3), .rw ty_int (encInt.row A) r1]⟩) (fun _ => True) trivial (Wk.pick [0, 1, 2]) fun i hi _ => ?_
      simp only [l2_laws_FnFirstFit, not_true_eq_false, not_false_eq_true, decide_true, decide_false, Bool.not_true, Bool.not_false, false_implies, true_implies, and_true, true_and, Bool.false_eq_true, Bool.true_eq_false, implies_true, Bool.not_not, Classical.not_not, go_sem, Int.reduceToNat, List.take_nil, Nat.zero_mul, Nat.reduceEqDiff, Nat.reduceAdd, Nat.reduceLT, Nat.reduceLeDiff, Nat.reduceMul, ↓reduceIte, reduceCtorEq]
      refine ⟨fun hlt => ?_, fun hge => ?_⟩
      · have hiA : i < A.length := by omega
        obtain ⟨a1, a2, a3⟩ := hA.2 i hiA
        have gA : gI A i = A[i] := by simp [gI, List.getD_eq_getElem?_getD, hiA]
        have gS : gT S i = S[i] := by simp [gT, List.getD_eq_getElem?_getD, hlt]
        rw [gA] at a1 a3
        rw [gS] at a3
        refine loop_count A[i].toNat (fun k => ⟨[(3, .sl 1 0 S.length cap), (4, .i .i64 m), (5, .sl 2 0 A.length c1), (11, .i .i64 i), (12, .i .i64 k)], [.ro (encByte.row C), .rw ty_impl_Task (encTask.row S) (cap * 3), .rw ty_int (encInt.row A) r1]⟩) (fun _ => True) trivial (Wk.keep (by simp [look_cons])) fun k hk _ => ?_
        simp only [l1_laws_FnFirstFit, rdI hiA, lenI, not_true_eq_false, not_false_eq_true, decide_true, decide_false, Bool.not_true, Bool.not_false, false_implies, true_implies, and_true, true_and, Bool.false_eq_true, Bool.true_eq_false, implies_true, Bool.not_not, Classical.not_not, go_sem, Int.reduceToNat, List.take_nil, Nat.zero_mul, Nat.reduceEqDiff, Nat.reduceAdd, Nat.reduceLT, Nat.reduceLeDiff, Nat.reduceMul, ↓reduceIte, reduceCtorEq]
        refine ⟨hiA, hiA, fun hkA => ?_, fun hkA => ⟨by omega, hlt, Wk.pick [0, 1, 2]⟩⟩
        have hnf := a3 k (by omega) hkA
        refine loop_intro (fun q : Nat × Nat => ⟨[(3, .sl 1 0 S.length cap), (4, .i .i64 m), (5, .sl 2 0 A.length c1), (11, .i .i64 i), (12, .i .i64 k), (13, .sl 3 0 (onC S A k q.1).length q.2), (14, .i .i64 q.1)], [.ro (encByte.row C), .rw ty_impl_Task (encTask.row S) (cap * 3), .rw ty_int (encInt.row A) r1, .rw ty_impl_Task (encTask.row (onC S A k q.1)) (q.2 * 3)]⟩) (fun q => q.1 ≤ i ∧ (onC S A k q.1).length ≤ q.2) (fun q => i - q.1) (0, 0) ⟨Nat.zero_le _, by simp [onC_zero]⟩ (by rw [show onC S A k ((0, 0) : Nat × Nat).1 = [] from onC_zero S A k]; exact Wk.pick [0, 1, 2, 3]) ?_
        rintro ⟨j, cap2⟩ ⟨hj, hcap2⟩
        simp only at hj hcap2
        have hmono := (onC_sub S A k j).length_le
        simp only [l0_laws_FnFirstFit, not_true_eq_false, not_false_eq_true, decide_true, decide_false, Bool.not_true, Bool.not_false, false_implies, true_implies, and_true, true_and, Bool.false_eq_true, Bool.true_eq_false, implies_true, Bool.not_not, Classical.not_not, go_sem, Int.reduceToNat, List.take_nil, Nat.zero_mul, Nat.reduceEqDiff, Nat.reduceAdd, Nat.reduceLT, Nat.reduceLeDiff, Nat.reduceMul, ↓reduceIte, reduceCtorEq]
        refine ⟨fun hji => ?_, fun hji => ?_⟩
        · have hjS : j < S.length := by omega
          have hjA : j < A.length := by omega
          have hsucc := onC_snoc (S := S) (A := A) k hjS hjA
          rw [show gT S j = S[j] by simp [gT, List.getD_eq_getElem?_getD, hjS], show gI A j = A[j] by simp [gI, List.getD_eq_getElem?_getD, hjA]] at hsucc
          generalize onC S A k j = M' at *
          simp only [rdI hjA, winT hjS, encTf, lenT, lenI, not_true_eq_false, not_false_eq_true, decide_true, decide_false, Bool.not_true, Bool.not_false, false_implies, true_implies, and_true, true_and, Bool.false_eq_true, Bool.true_eq_false, implies_true, Bool.not_not, Classical.not_not, go_sem, Int.reduceToNat, List.take_nil, Nat.zero_mul, Nat.reduceEqDiff, Nat.reduceAdd, Nat.reduceLT, Nat.reduceLeDiff, Nat.reduceMul, ↓reduceIte, reduceCtorEq]
          refine ⟨hjA, hjA, fun he => ?_, fun he => ?_⟩
          · rw [if_pos he] at hsucc
            refine ⟨hjS, by omega, by omega, fun cap' hcap => ⟨by omega, (j + 1, cap'), ⟨⟨by simp only; omega, by simp only [hsucc]; simpa using hcap⟩, by simp only; omega⟩, ?_⟩⟩
            have e2 : (M' ++ [S[j]]).length = M'.length + 1 := by simp
            have e3 : List.take (M'.length * 3) (encTask.row M') ++ [AV.i IntKind.i64 S[j].C, AV.i IntKind.i64 S[j].D, AV.i IntKind.i64 S[j].P] = encTask.row (M' ++ [S[j]]) := by
              simp only [takeT, appT]
            simp only [hsucc, e2, e3]
            exact Wk.pick [0, 1, 2, 5]
          · rw [if_neg he, List.append_nil] at hsucc
            refine ⟨by omega, (j + 1, cap2), ⟨⟨by simp only; omega, by simp only [hsucc]; exact hcap2⟩, by simp only; omega⟩, ?_⟩
            simp only [hsucc]
            exact Wk.pick [0, 1, 2, 3]
        · have ej : j = i := by omega
          subst ej
          generalize onC S A k j = M' at *
          simp only [winT hlt, encTf, lenT, lenI, not_true_eq_false, not_false_eq_true, decide_true, decide_false, Bool.not_true, Bool.not_false, false_implies, true_implies, and_true, true_and, Bool.false_eq_true, Bool.true_eq_false, implies_true, Bool.not_not, Classical.not_not, go_sem, Int.reduceToNat, List.take_nil, Nat.zero_mul, Nat.reduceEqDiff, Nat.reduceAdd, Nat.reduceLT, Nat.reduceLeDiff, Nat.reduceMul, ↓reduceIte, reduceCtorEq]
          refine ⟨by omega, by omega, by omega, fun cap' hcap => ?_⟩
          have e3 : List.take (M'.length * 3) (encTask.row M') ++ [AV.i IntKind.i64 S[j].C, AV.i IntKind.i64 S[j].D, AV.i IntKind.i64 S[j].P] = encTask.row (M' ++ [S[j]]) := by
            simp only [takeT, appT]
          rw [e3]
          refine impl_EdfFeasible_ (S := M' ++ [S[j]]) (by simp; omega) (Rd.owL rfl (by simp)) ?_
          rw [decide_eq_false hnf]
          simp only [not_true_eq_false, not_false_eq_true, decide_true, decide_false, Bool.not_true, Bool.not_false, false_implies, true_implies, and_true, true_and, Bool.false_eq_true, Bool.true_eq_false, implies_true, Bool.not_not, Classical.not_not, go_sem, Int.reduceToNat, List.take_nil, Nat.zero_mul, Nat.reduceEqDiff, Nat.reduceAdd, Nat.reduceLT, Nat.reduceLeDiff, Nat.reduceMul, ↓reduceIte, reduceCtorEq]
          exact ⟨by omega, by omega, Wk.pick [0, 1, 2]⟩
      · refine impl_AssignmentFeasible_ (S := S) (A := A) (by omega) (by omega) (Rd.own rfl) (Rd.own rfl) ?_
        rw [show decide (asgOk S m A) = true from decide_eq_true ⟨hok, hA.feas hS hAl⟩]
        simp only [not_true_eq_false, not_false_eq_true, decide_true, decide_false, Bool.not_true, Bool.not_false, false_implies, true_implies, and_true, true_and, Bool.false_eq_true, Bool.true_eq_false, implies_true, Bool.not_not, Classical.not_not, go_sem, Int.reduceToNat, List.take_nil, Nat.zero_mul, Nat.reduceEqDiff, Nat.reduceAdd, Nat.reduceLT, Nat.reduceLeDiff, Nat.reduceMul, ↓reduceIte, reduceCtorEq]
        exact Fin.plain rfl
  · simp only [go_sem, Int.reduceToNat, List.take_nil, Nat.zero_mul, Nat.reduceEqDiff, Nat.reduceAdd, Nat.reduceLT, Nat.reduceLeDiff, Nat.reduceMul, ↓reduceIte, reduceCtorEq]
    refine spec_FirstFit_ (S := S) (by omega) (Rd.own rfl) fun x τ hx => ?_
    rcases hx with ⟨A', c2, r2, rfl, rfl, hok, hA'⟩ | ⟨rfl, rfl, _⟩
    · have := (hA'.same (hno hok)).1; cases this
    simp only [not_true_eq_false, not_false_eq_true, decide_true, decide_false, Bool.not_true, Bool.not_false, false_implies, true_implies, and_true, true_and, Bool.false_eq_true, Bool.true_eq_false, implies_true, Bool.not_not, Classical.not_not, go_sem, Int.reduceToNat, List.take_nil, Nat.zero_mul, Nat.reduceEqDiff, Nat.reduceAdd, Nat.reduceLT, Nat.reduceLeDiff, Nat.reduceMul, ↓reduceIte, reduceCtorEq]
    refine laws_sameInts_ (L := []) (M := []) (by simp) (Rd.nul (by simp)) (Rd.empty rfl) ?_
    simp only [not_true_eq_false, not_false_eq_true, decide_true, decide_false, Bool.not_true, Bool.not_false, false_implies, true_implies, and_true, true_and, Bool.false_eq_true, Bool.true_eq_false, implies_true, Bool.not_not, Classical.not_not, go_sem, Int.reduceToNat, List.take_nil, Nat.zero_mul, Nat.reduceEqDiff, Nat.reduceAdd, Nat.reduceLT, Nat.reduceLeDiff, Nat.reduceMul, ↓reduceIte, reduceCtorEq]
    refine impl_FirstFit_ (S := S) (by omega) (Rd.own rfl) fun x τ hx => ?_
    rcases hone hx with ⟨A1, c3, r3, rfl, rfl, hf⟩ | ⟨rfl, rfl, hf⟩
    all_goals
      simp only [not_true_eq_false, not_false_eq_true, decide_true, decide_false, Bool.not_true, Bool.not_false, false_implies, true_implies, and_true, true_and, Bool.false_eq_true, Bool.true_eq_false, implies_true, Bool.not_not, Classical.not_not, go_sem, Int.reduceToNat, List.take_nil, Nat.zero_mul, Nat.reduceEqDiff, Nat.reduceAdd, Nat.reduceLT, Nat.reduceLeDiff, Nat.reduceMul, ↓reduceIte, reduceCtorEq]
      refine impl_EdfFeasible_ (S := S) (by omega) (Rd.own rfl) ?_
      rw [hf]
      simp only [not_true_eq_false, not_false_eq_true, decide_true, decide_false, Bool.not_true, Bool.not_false, false_implies, true_implies, and_true, true_and, Bool.false_eq_true, Bool.true_eq_false, implies_true, Bool.not_not, Classical.not_not, go_sem, Int.reduceToNat, List.take_nil, Nat.zero_mul, Nat.reduceEqDiff, Nat.reduceAdd, Nat.reduceLT, Nat.reduceLeDiff, Nat.reduceMul, ↓reduceIte, reduceCtorEq]
      refine laws_alive_ ?_
      simp only [not_true_eq_false, not_false_eq_true, decide_true, decide_false, Bool.not_true, Bool.not_false, false_implies, true_implies, and_true, true_and, Bool.false_eq_true, Bool.true_eq_false, implies_true, Bool.not_not, Classical.not_not, go_sem, Int.reduceToNat, List.take_nil, Nat.zero_mul, Nat.reduceEqDiff, Nat.reduceAdd, Nat.reduceLT, Nat.reduceLeDiff, Nat.reduceMul, ↓reduceIte, reduceCtorEq]
      exact Fin.plain rfl
theorem c_FnFirstFit (C : List Nat) (c : Nat) (hC : ∀ x ∈ C, x < 256) (_ : C.length * 1 ≤ 140737488351232) (hc : C.length ≤ c) :
    CallWp Try.prog n_laws_FnFirstFit [.sl 0 0 C.length c] [.ro (encByte.row C)] (fun x _ => x = .b true) := laws_FnFirstFit0 C hC c hc
end Go.Proofs.Ytfngcejaphhmmaa
