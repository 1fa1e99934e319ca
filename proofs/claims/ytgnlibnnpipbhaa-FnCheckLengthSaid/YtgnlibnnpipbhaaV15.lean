/- The law FnCheckLength answers true: over the abstract heap. -/
import Derived.Test.YtgnlibnnpipbhaaV13
import Derived.Test.YtgnlibnnpipbhaaC4
namespace Go.Proofs.Ytgnlibnnpipbhaa
open Go.Abs Go.Ds
set_option linter.unusedSimpArgs false
set_option linter.unusedVariables false
set_option maxRecDepth 20000
set_option maxHeartbeats 2000000

theorem laws_FnCheckLength0 (C : List Nat) (hC : ∀ x ∈ C, x < 256) (c : Nat) (hc : C.length ≤ c) : CallWp Try.prog n_laws_FnCheckLength [.sl 0 0 C.length c] [.ro (encByte.row C)] (fun x _ => x = .b true) := by
  refine call_laws_FnCheckLength (by simp) ?_
  simp only [c_laws_FnCheckLength, go_sem, Int.reduceToNat, List.take_nil, Nat.zero_mul, Nat.reduceEqDiff, Nat.reduceAdd, Nat.reduceLT, Nat.reduceLeDiff, Nat.reduceMul, ↓reduceIte, reduceCtorEq]
  refine ⟨fun h => Fin.plain rfl, fun h => ?_⟩
  refine (spec_DrawCheckSchedule0 C hC c hc).mono ?_
  rintro x σ' _ ⟨S, L, cap, cap', z, τ, R, rfl, rfl, hz, hS8, hL62⟩
  have hR120 : R.length ≤ 120 := by
    rcases hz with ⟨_, _, rfl⟩ | ⟨W, k, cr, rr, _, _, h1, h2, rfl⟩
    · simp
    · rw [List.length_take]; omega
  rcases hz with ⟨rfl, rfl, rfl⟩ | ⟨W, k, cr, rr, rfl, rfl, hkW, hW, rfl⟩
  · simp only [go_sem, Int.reduceToNat, List.take_nil, Nat.zero_mul, Nat.reduceEqDiff, Nat.reduceAdd, Nat.reduceLT, Nat.reduceLeDiff, Nat.reduceMul, ↓reduceIte, reduceCtorEq]
    refine impl_CheckSchedule_ (S := S) (L := L) (R := []) (by omega) (by omega) (by simp) (Rd.own rfl) (Rd.own rfl) (Rd.none (by simp)) fun cc aa hcc => ?_
    simp only [not_true_eq_false, not_false_eq_true, decide_true, decide_false, Bool.not_true, Bool.not_false, false_implies, true_implies, and_true, true_and, Bool.false_eq_true, Bool.true_eq_false, implies_true, Bool.not_not, Classical.not_not, go_sem, Int.reduceToNat, List.take_nil, Nat.zero_mul, Nat.reduceEqDiff, Nat.reduceAdd, Nat.reduceLT, Nat.reduceLeDiff, Nat.reduceMul, ↓reduceIte, reduceCtorEq]
    refine spec_CheckSchedule_ (S := S) (L := L) (R := []) (by omega) (by omega) (by simp) (Rd.own rfl) (Rd.own rfl) (Rd.none (by simp)) fun c2 a2 hc2 => ?_
    obtain ⟨rfl, rfl⟩ := hcc.same hc2
    simp only [not_true_eq_false, not_false_eq_true, decide_true, decide_false, Bool.not_true, Bool.not_false, false_implies, true_implies, and_true, true_and, Bool.false_eq_true, Bool.true_eq_false, implies_true, Bool.not_not, Classical.not_not, go_sem, Int.reduceToNat, List.take_nil, Nat.zero_mul, Nat.reduceEqDiff, Nat.reduceAdd, Nat.reduceLT, Nat.reduceLeDiff, Nat.reduceMul, ↓reduceIte, reduceCtorEq]
    refine spec_JobsLegal_ (S := S) (L := L) (by omega) (by omega) (Rd.own rfl) (Rd.own rfl) ?_
    by_cases hv : jobsLegal S L
    · have e2 : cc = 2 := by
        rcases hcc with ⟨h1, _⟩ | ⟨_, _, h1, _⟩ | ⟨_, h1, _⟩
        · exact absurd hv h1
        · exact h1
        · simp at h1
      subst e2
      simp only [hv, not_true_eq_false, not_false_eq_true, decide_true, decide_false, Bool.not_true, Bool.not_false, false_implies, true_implies, and_true, true_and, Bool.false_eq_true, Bool.true_eq_false, implies_true, Bool.not_not, Classical.not_not, go_sem, Int.reduceToNat, List.take_nil, Nat.zero_mul, Nat.reduceEqDiff, Nat.reduceAdd, Nat.reduceLT, Nat.reduceLeDiff, Nat.reduceMul, ↓reduceIte, reduceCtorEq]
      exact ⟨fun _ => Fin.plain rfl, fun h => absurd h (by decide)⟩
    · have e1 : cc = 1 := by
        rcases hcc with ⟨_, h1, _⟩ | ⟨h1, _⟩ | ⟨h1, _⟩
        · exact h1
        · exact absurd h1 hv
        · exact absurd h1 hv
      subst e1
      simp only [hv, not_true_eq_false, not_false_eq_true, decide_true, decide_false, Bool.not_true, Bool.not_false, false_implies, true_implies, and_true, true_and, Bool.false_eq_true, Bool.true_eq_false, implies_true, Bool.not_not, Classical.not_not, go_sem, Int.reduceToNat, List.take_nil, Nat.zero_mul, Nat.reduceEqDiff, Nat.reduceAdd, Nat.reduceLT, Nat.reduceLeDiff, Nat.reduceMul, ↓reduceIte, reduceCtorEq]
      refine laws_alive_ ?_
      simp only [not_true_eq_false, not_false_eq_true, decide_true, decide_false, Bool.not_true, Bool.not_false, false_implies, true_implies, and_true, true_and, Bool.false_eq_true, Bool.true_eq_false, implies_true, Bool.not_not, Classical.not_not, go_sem, Int.reduceToNat, List.take_nil, Nat.zero_mul, Nat.reduceEqDiff, Nat.reduceAdd, Nat.reduceLT, Nat.reduceLeDiff, Nat.reduceMul, ↓reduceIte, reduceCtorEq]
      exact Fin.plain rfl
  · have hk : (W.take k).length = k := by rw [List.length_take]; omega
    simp only [go_sem, Int.reduceToNat, List.take_nil, Nat.zero_mul, Nat.reduceEqDiff, Nat.reduceAdd, Nat.reduceLT, Nat.reduceLeDiff, Nat.reduceMul, ↓reduceIte, reduceCtorEq]
    refine impl_CheckSchedule_ (S := S) (L := L) (R := W.take k) (by omega) (by omega) (by omega) (Rd.own rfl) (Rd.own rfl) (Rd.first rfl hkW) fun cc aa hcc => ?_
    simp only [not_true_eq_false, not_false_eq_true, decide_true, decide_false, Bool.not_true, Bool.not_false, false_implies, true_implies, and_true, true_and, Bool.false_eq_true, Bool.true_eq_false, implies_true, Bool.not_not, Classical.not_not, go_sem, Int.reduceToNat, List.take_nil, Nat.zero_mul, Nat.reduceEqDiff, Nat.reduceAdd, Nat.reduceLT, Nat.reduceLeDiff, Nat.reduceMul, ↓reduceIte, reduceCtorEq]
    refine spec_CheckSchedule_ (S := S) (L := L) (R := W.take k) (by omega) (by omega) (by omega) (Rd.own rfl) (Rd.own rfl) (Rd.first rfl hkW) fun c2 a2 hc2 => ?_
    obtain ⟨rfl, rfl⟩ := hcc.same hc2
    simp only [not_true_eq_false, not_false_eq_true, decide_true, decide_false, Bool.not_true, Bool.not_false, false_implies, true_implies, and_true, true_and, Bool.false_eq_true, Bool.true_eq_false, implies_true, Bool.not_not, Classical.not_not, go_sem, Int.reduceToNat, List.take_nil, Nat.zero_mul, Nat.reduceEqDiff, Nat.reduceAdd, Nat.reduceLT, Nat.reduceLeDiff, Nat.reduceMul, ↓reduceIte, reduceCtorEq]
    refine spec_JobsLegal_ (S := S) (L := L) (by omega) (by omega) (Rd.own rfl) (Rd.own rfl) ?_
    by_cases hv : jobsLegal S L
    · simp only [hv, not_true_eq_false, not_false_eq_true, decide_true, decide_false, Bool.not_true, Bool.not_false, false_implies, true_implies, and_true, true_and, Bool.false_eq_true, Bool.true_eq_false, implies_true, Bool.not_not, Classical.not_not, go_sem, Int.reduceToNat, List.take_nil, Nat.zero_mul, Nat.reduceEqDiff, Nat.reduceAdd, Nat.reduceLT, Nat.reduceLeDiff, Nat.reduceMul, ↓reduceIte, reduceCtorEq]
      refine ⟨fun hne => ?_, fun he => ?_⟩
      · have e2 : cc = 2 := by
          rcases hcc with ⟨h1, _⟩ | ⟨_, _, h1, _⟩ | ⟨_, h1, _⟩
          · exact absurd hv h1
          · exact h1
          · exact absurd (show (k : Int) = 120 by omega) hne
        subst e2
        exact Fin.plain rfl
      · have hl119 : (W.take 119).length = 119 := by rw [List.length_take]; omega
        refine ⟨by omega, .inr (by omega), impl_CheckSchedule_ (S := S) (L := L) (R := W.take 119) (by omega) (by omega) (by omega) (Rd.own rfl) (Rd.own rfl) (Rd.first rfl (by omega)) fun c3 a3 hc3 => ?_⟩
        have e3 : c3 = 2 ∧ a3 = 0 := by
          rcases hc3 with ⟨h1, _⟩ | ⟨_, _, h1, h2⟩ | ⟨_, h1, _⟩
          · exact absurd hv h1
          · exact ⟨h1, h2⟩
          · rw [hl119] at h1; cases h1
        obtain ⟨rfl, rfl⟩ := e3
        simp only [not_true_eq_false, not_false_eq_true, decide_true, decide_false, Bool.not_true, Bool.not_false, false_implies, true_implies, and_true, true_and, Bool.false_eq_true, Bool.true_eq_false, implies_true, Bool.not_not, Classical.not_not, go_sem, Int.reduceToNat, List.take_nil, Nat.zero_mul, Nat.reduceEqDiff, Nat.reduceAdd, Nat.reduceLT, Nat.reduceLeDiff, Nat.reduceMul, ↓reduceIte, reduceCtorEq]
        exact Fin.plain rfl
    · have e1 : cc = 1 := by
        rcases hcc with ⟨_, h1, _⟩ | ⟨h1, _⟩ | ⟨h1, _⟩
        · exact h1
        · exact absurd h1 hv
        · exact absurd h1 hv
      subst e1
      simp only [hv, not_true_eq_false, not_false_eq_true, decide_true, decide_false, Bool.not_true, Bool.not_false, false_implies, true_implies, and_true, true_and, Bool.false_eq_true, Bool.true_eq_false, implies_true, Bool.not_not, Classical.not_not, go_sem, Int.reduceToNat, List.take_nil, Nat.zero_mul, Nat.reduceEqDiff, Nat.reduceAdd, Nat.reduceLT, Nat.reduceLeDiff, Nat.reduceMul, ↓reduceIte, reduceCtorEq]
      refine laws_alive_ ?_
      simp only [not_true_eq_false, not_false_eq_true, decide_true, decide_false, Bool.not_true, Bool.not_false, false_implies, true_implies, and_true, true_and, Bool.false_eq_true, Bool.true_eq_false, implies_true, Bool.not_not, Classical.not_not, go_sem, Int.reduceToNat, List.take_nil, Nat.zero_mul, Nat.reduceEqDiff, Nat.reduceAdd, Nat.reduceLT, Nat.reduceLeDiff, Nat.reduceMul, ↓reduceIte, reduceCtorEq]
      exact Fin.plain rfl

theorem c_FnCheckLength (C : List Nat) (c : Nat) (hC : ∀ x ∈ C, x < 256) (_ : C.length * 1 ≤ 140737488351232) (hc : C.length ≤ c) : CallWp Try.prog n_laws_FnCheckLength [.sl 0 0 C.length c] [.ro (encByte.row C)] (fun x _ => x = .b true) := laws_FnCheckLength0 C hC c hc
end Go.Proofs.Ytgnlibnnpipbhaa
