import Derived.Test.YtmphblbpofnpaaaF2
import Derived.Test.YtmphblbpofnpaaaS8
import Derived.Test.YtmphblbpofnpaaaD4
import Derived.Test.YtmphblbpofnpaaaMM
namespace Go.Proofs.Ytmphblbpofnpaaa
open Go.Abs Go.Ds
set_option linter.unusedSimpArgs false
set_option linter.unusedVariables false
set_option maxRecDepth 20000
theorem spec_DrawRunEdf0 (C : List Nat) (hC : ∀ x ∈ C, x < 256) (c : Nat) (hc : C.length ≤ c) : CallWp Try.prog n_spec_DrawRunEdf [.sl 0 0 C.length c] [.ro (encByte.row C)] (fun x σ' => ∃ (S : List Task) (L : List Job) (cap cap' : Nat),
    x = .tup [.sl 1 0 S.length cap, .sl 2 0 L.length cap'] ∧ σ' = [.ro (encByte.row C), .rw ty_impl_Task (encTask.row S) (cap * 3), .rw ty_impl_Job (encJob.row L) (cap' * 4)] ∧ (S.length ≤ 8 ∧ ∀ t ∈ S, wildT t) ∧ L.length ≤ 62 ∧ ∀ j ∈ L, wildJ j) := by
  refine call_spec_DrawRunEdf (by simp) ?_
  simp only [c_spec_DrawRunEdf, go_sem, Int.reduceToNat, List.take_nil, Nat.zero_mul, Nat.reduceEqDiff, Nat.reduceAdd, Nat.reduceLT, Nat.reduceLeDiff, Nat.reduceMul, ↓reduceIte, reduceCtorEq]
  refine (spec_l20Open0 C c hc).mono ?_
  rintro x σ' _ ⟨rfl, rfl⟩
  simp only [go_sem, Int.reduceToNat, List.take_nil, Nat.zero_mul, Nat.reduceEqDiff, Nat.reduceAdd, Nat.reduceLT, Nat.reduceLeDiff, Nat.reduceMul, ↓reduceIte, reduceCtorEq]
  refine spec_l20Set_ (Rdr.take (τ := [])) (Code.take hC) (by omega) _ (by omega) fun S cap p1 h11 h12 hS8 hS _ => ?_
  simp only [go_sem, Int.reduceToNat, List.take_nil, Nat.zero_mul, Nat.reduceEqDiff, Nat.reduceAdd, Nat.reduceLT, Nat.reduceLeDiff, Nat.reduceMul, ↓reduceIte, reduceCtorEq]
  refine spec_SetValid_ (L := S) (by omega) (Rd.own rfl) ?_
  simp only [not_true_eq_false, not_false_eq_true, decide_true, decide_false, Bool.not_true, Bool.not_false, false_implies, true_implies, and_true, true_and, Bool.false_eq_true, Bool.true_eq_false, implies_true, Bool.not_not, Classical.not_not, go_sem, Int.reduceToNat, List.take_nil, Nat.zero_mul, Nat.reduceEqDiff, Nat.reduceAdd, Nat.reduceLT, Nat.reduceLeDiff, Nat.reduceMul, ↓reduceIte, reduceCtorEq]
  refine ⟨fun hv => ?_, fun hv => ?_⟩
  · exact Fin.pick [0, 2, 3] (.tup [.sl 1 0 S.length cap, .sl 2 0 0 0]) [.ro (encByte.row C), .rw ty_impl_Task (encTask.row S) (cap * 3), .rw ty_impl_Job (encJob.row []) (0 * 4)] ⟨S, [], cap, 0, rfl, rfl, ⟨hS8, hS⟩, by simp, by simp⟩
  · refine spec_l20Jobs_ (Rdr.take (τ := [_])) (Code.take hC) (by omega) hv (Sl.own rfl (by decide)) _ (by omega) fun L cap' p2 h21 h22 hL62 hL => ?_
    simp only [go_sem, Int.reduceToNat, List.take_nil, Nat.zero_mul, Nat.reduceEqDiff, Nat.reduceAdd, Nat.reduceLT, Nat.reduceLeDiff, Nat.reduceMul, ↓reduceIte, reduceCtorEq]
    exact Fin.pick [0, 2, 3] (.tup [.sl 1 0 S.length cap, .sl 2 0 L.length cap']) _ ⟨S, L, cap, cap', rfl, rfl, ⟨hS8, hS⟩, hL62, hL⟩
theorem Rd.none {α : Type} {E : Enc α} {σ : List AB} (h : 0 < σ.length) : Rd E σ .sn [] := .inr ⟨rfl, rfl, h⟩
theorem edfRun_length (L : List Job) : (edfRun L).length = 120 := (simU_lens 120).2.2
theorem edfFin_length (L : List Job) : (edfFin L).length = L.length := (simU_lens 120).2.1
theorem gI_row {l : List Int} {k : Nat} (h : k < l.length) : gI l k = l[k] := by simp [gI, List.getD_eq_getElem?_getD, h]
end Go.Proofs.Ytmphblbpofnpaaa
