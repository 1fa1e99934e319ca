/- The law FnExactJitterLegal answers true: over the abstract heap. -/
import Derived.Test.YtklidlannicomaaE4
import Derived.Test.YtklidlannicomaaE5
namespace Go.Proofs.Ytklidlannicomaa
open Go.Abs Go.Ds
set_option linter.unusedSimpArgs false
set_option linter.unusedVariables false
set_option maxRecDepth 20000

theorem laws_FnExactJitterLegal0 (S : List Task) (J : List Int) (L : List Job) (hS : S.length ≤ 4611686018427387904) (hL : L.length ≤ 4611686018427387904) (c c' c3 : Nat) : CallWp Try.prog n_laws_FnExactJitterLegal [.sl 0 0 S.length c, .sl 1 0 J.length c', .sl 2 0 L.length c3] [.ro (encTask.row S), .ro (encInt.row J), .ro (encJob.row L)] (fun x _ => x = .b true) := by
  refine call_laws_FnExactJitterLegal (by simp) ?_
  simp only [c_laws_FnExactJitterLegal, go_sem, Int.reduceToNat, List.take_nil, Nat.zero_mul, Nat.reduceEqDiff, Nat.reduceAdd, Nat.reduceLT, Nat.reduceLeDiff, Nat.reduceMul, ↓reduceIte, reduceCtorEq]
  refine ⟨fun h => Fin.plain rfl, fun h => ?_⟩
  refine laws_szTaskS_ hS (by omega) (Rd.own rfl) ?_
  simp only [go_sem, Int.reduceToNat, List.take_nil, Nat.zero_mul, Nat.reduceEqDiff, Nat.reduceAdd, Nat.reduceLT, Nat.reduceLeDiff, Nat.reduceMul, ↓reduceIte, reduceCtorEq]
  refine ⟨fun h1 => Fin.plain rfl, fun h1 => ?_⟩
  have hl : S.length ≤ 1048576 := by split at h1 <;> omega
  rw [if_neg (by omega)]
  refine laws_szJobS_ hL (by omega) (Rd.own rfl) ?_
  simp only [go_sem, Int.reduceToNat, List.take_nil, Nat.zero_mul, Nat.reduceEqDiff, Nat.reduceAdd, Nat.reduceLT, Nat.reduceLeDiff, Nat.reduceMul, ↓reduceIte, reduceCtorEq]
  refine ⟨fun h2 => Fin.plain rfl, fun h2 => ?_⟩
  have hll : L.length ≤ 1048576 := by split at h2 <;> omega
  have hjl : J.length ≤ 1048576 := by omega
  refine laws_toTaskS_ (by omega) (Rd.own rfl) fun c1 => ?_
  simp only [go_sem, Int.reduceToNat, List.take_nil, Nat.zero_mul, Nat.reduceEqDiff, Nat.reduceAdd, Nat.reduceLT, Nat.reduceLeDiff, Nat.reduceMul, ↓reduceIte, reduceCtorEq]
  refine laws_toIntS_ (by omega) (Rd.own rfl) fun c2 => ?_
  simp only [go_sem, Int.reduceToNat, List.take_nil, Nat.zero_mul, Nat.reduceEqDiff, Nat.reduceAdd, Nat.reduceLT, Nat.reduceLeDiff, Nat.reduceMul, ↓reduceIte, reduceCtorEq]
  refine laws_toJobS_ (by omega) (Rd.own rfl) fun c3 => ?_
  simp only [go_sem, Int.reduceToNat, List.take_nil, Nat.zero_mul, Nat.reduceEqDiff, Nat.reduceAdd, Nat.reduceLT, Nat.reduceLeDiff, Nat.reduceMul, ↓reduceIte, reduceCtorEq]
  refine spec_JitterLegal_ (S := S) (J := J) (L := L) (by omega) (by omega) (by omega) (Rd.own rfl) (Rd.own rfl) (Rd.own rfl) ?_
  simp only [go_sem, Int.reduceToNat, List.take_nil, Nat.zero_mul, Nat.reduceEqDiff, Nat.reduceAdd, Nat.reduceLT, Nat.reduceLeDiff, Nat.reduceMul, ↓reduceIte, reduceCtorEq]
  refine laws_toTaskS_ (by omega) (Rd.own rfl) fun c4 => ?_
  simp only [go_sem, Int.reduceToNat, List.take_nil, Nat.zero_mul, Nat.reduceEqDiff, Nat.reduceAdd, Nat.reduceLT, Nat.reduceLeDiff, Nat.reduceMul, ↓reduceIte, reduceCtorEq]
  refine laws_toIntS_ (by omega) (Rd.own rfl) fun c5 => ?_
  simp only [go_sem, Int.reduceToNat, List.take_nil, Nat.zero_mul, Nat.reduceEqDiff, Nat.reduceAdd, Nat.reduceLT, Nat.reduceLeDiff, Nat.reduceMul, ↓reduceIte, reduceCtorEq]
  refine laws_toJobS_ (by omega) (Rd.own rfl) fun c6 => ?_
  simp only [go_sem, Int.reduceToNat, List.take_nil, Nat.zero_mul, Nat.reduceEqDiff, Nat.reduceAdd, Nat.reduceLT, Nat.reduceLeDiff, Nat.reduceMul, ↓reduceIte, reduceCtorEq]
  refine impl_JitterLegal_ (S := S) (J := J) (L := L) (by omega) (by omega) (by omega) (Rd.own rfl) (Rd.own rfl) (Rd.own rfl) ?_
  simp only [go_sem, Int.reduceToNat, List.take_nil, Nat.zero_mul, Nat.reduceEqDiff, Nat.reduceAdd, Nat.reduceLT, Nat.reduceLeDiff, Nat.reduceMul, ↓reduceIte, reduceCtorEq]
  refine laws_toTaskS_ (by omega) (Rd.own rfl) fun c7 => ?_
  simp only [go_sem, Int.reduceToNat, List.take_nil, Nat.zero_mul, Nat.reduceEqDiff, Nat.reduceAdd, Nat.reduceLT, Nat.reduceLeDiff, Nat.reduceMul, ↓reduceIte, reduceCtorEq]
  refine laws_eqTaskS_ (L := S) (M := S) (by omega) (Rd.own rfl) (Rd.own rfl) ?_
  simp only [not_true_eq_false, not_false_eq_true, decide_true, decide_false, Bool.not_true, Bool.not_false, false_implies, true_implies, and_true, true_and, Bool.false_eq_true, Bool.true_eq_false, implies_true, Bool.not_not, Classical.not_not, go_sem, Int.reduceToNat, List.take_nil, Nat.zero_mul, Nat.reduceEqDiff, Nat.reduceAdd, Nat.reduceLT, Nat.reduceLeDiff, Nat.reduceMul, ↓reduceIte, reduceCtorEq]
  refine laws_toIntS_ (by omega) (Rd.own rfl) fun c8 => ?_
  simp only [go_sem, Int.reduceToNat, List.take_nil, Nat.zero_mul, Nat.reduceEqDiff, Nat.reduceAdd, Nat.reduceLT, Nat.reduceLeDiff, Nat.reduceMul, ↓reduceIte, reduceCtorEq]
  refine laws_eqIntS_ (L := J) (M := J) (by omega) (Rd.own rfl) (Rd.own rfl) ?_
  simp only [not_true_eq_false, not_false_eq_true, decide_true, decide_false, Bool.not_true, Bool.not_false, false_implies, true_implies, and_true, true_and, Bool.false_eq_true, Bool.true_eq_false, implies_true, Bool.not_not, Classical.not_not, go_sem, Int.reduceToNat, List.take_nil, Nat.zero_mul, Nat.reduceEqDiff, Nat.reduceAdd, Nat.reduceLT, Nat.reduceLeDiff, Nat.reduceMul, ↓reduceIte, reduceCtorEq]
  refine laws_toJobS_ (by omega) (Rd.own rfl) fun c9 => ?_
  simp only [go_sem, Int.reduceToNat, List.take_nil, Nat.zero_mul, Nat.reduceEqDiff, Nat.reduceAdd, Nat.reduceLT, Nat.reduceLeDiff, Nat.reduceMul, ↓reduceIte, reduceCtorEq]
  refine laws_eqJobS_ (L := L) (M := L) (by omega) (Rd.own rfl) (Rd.own rfl) ?_
  simp only [not_true_eq_false, not_false_eq_true, decide_true, decide_false, Bool.not_true, Bool.not_false, false_implies, true_implies, and_true, true_and, Bool.false_eq_true, Bool.true_eq_false, implies_true, Bool.not_not, Classical.not_not, go_sem, Int.reduceToNat, List.take_nil, Nat.zero_mul, Nat.reduceEqDiff, Nat.reduceAdd, Nat.reduceLT, Nat.reduceLeDiff, Nat.reduceMul, ↓reduceIte, reduceCtorEq]
  exact Fin.plain rfl

theorem c_FnExactJitterLegal (S : List Task) (c : Nat) (J : List Int) (c' : Nat) (L : List Job) (c3 : Nat) (_ : ∀ x ∈ S, True) (y : S.length * 24 ≤ 140737488351232) (_ : S.length ≤ c) (_ : ∀ x ∈ J, fits .i64 x) (_ : J.length * 8 ≤ 140737488351232) (_ : J.length ≤ c')
    (_ : ∀ x ∈ L, True) (z : L.length * 32 ≤ 140737488351232) (_ : L.length ≤ c3) :
    CallWp Try.prog n_laws_FnExactJitterLegal [.sl 0 0 S.length c, .sl 1 0 J.length c', .sl 2 0 L.length c3] [.ro (encTask.row S), .ro (encInt.row J), .ro (encJob.row L)] (fun x _ => x = .b true) := laws_FnExactJitterLegal0 S J L (by omega) (by omega) c c' c3
end Go.Proofs.Ytklidlannicomaa
