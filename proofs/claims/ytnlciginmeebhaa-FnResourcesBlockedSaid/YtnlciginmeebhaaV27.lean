/- The laws FnResourcesSafe and FnResourcesBlocked answer true: over the abstract heap. -/
import Derived.Test.YtnlciginmeebhaaV26
import Derived.Test.YtnlciginmeebhaaS38
import Derived.Test.YtnlciginmeebhaaS14
namespace Go.Proofs.Ytnlciginmeebhaa
open Go.Abs Go.Ds
set_option linter.unusedSimpArgs false
set_option linter.unusedVariables false
set_option maxRecDepth 20000
set_option maxHeartbeats 2000000

/-- The longest section. -/
def longN (X : List Sec) : Nat → Int
  | 0 => 0
  | k + 1 => if longN X k < (gX X k).Ln then (gX X k).Ln else longN X k
theorem longN_pos (X : List Sec) : ∀ k, 0 ≤ longN X k
  | 0 => Int.le_refl _
  | k + 1 => by
    have := longN_pos X k
    simp only [longN]
    split <;> omega
theorem longN_ge {X : List Sec} : ∀ {k i : Nat}, i < k → (gX X i).Ln ≤ longN X k
  | 0, i, h => absurd h (by omega)
  | k + 1, i, h => by
    simp only [longN]
    rcases Nat.lt_or_eq_of_le (Nat.le_of_lt_succ h) with h4 | rfl
    · have := longN_ge (X := X) h4
      split <;> omega
    · split <;> omega
theorem free_bound (A : Nat → Bool) (a : Nat) : ∀ m : Nat, 0 ≤ free A a m ∧ free A a m ≤ m
  | 0 => by simp [free]
  | m + 1 => by
    have := free_bound A a m
    simp only [free]
    split <;> omega

theorem laws_FnResourcesSafe0 (C : List Nat) (hC : ∀ x ∈ C, x < 256) (c : Nat) (hc : C.length ≤ c) : CallWp Try.prog n_laws_FnResourcesSafe [.sl 0 0 C.length c] [.ro (encByte.row C)] (fun x _ => x = .b true) := by
  refine call_laws_FnResourcesSafe (by simp) ?_
  simp only [c_laws_FnResourcesSafe, go_sem, Int.reduceToNat, List.take_nil, Nat.zero_mul, Nat.reduceEqDiff, Nat.reduceAdd, Nat.reduceLT, Nat.reduceLeDiff, Nat.reduceMul, ↓reduceIte, reduceCtorEq]
  refine ⟨fun h => Fin.plain rfl, fun h => ?_⟩
  refine (spec_DrawRunResources0 C hC c hc).mono ?_
  rintro x σ' _ ⟨S, X, L, cap, cap2, cap', rfl, rfl, hS8, hX9, hL62⟩
  simp only [go_sem, Int.reduceToNat, List.take_nil, Nat.zero_mul, Nat.reduceEqDiff, Nat.reduceAdd, Nat.reduceLT, Nat.reduceLeDiff, Nat.reduceMul, ↓reduceIte, reduceCtorEq]
  have hR := srpRun_length S X L
  have hF := srpFin_length S X L
  by_cases hok : resOk S X L
  · have hv := hok.2
    refine impl_RunResources_ (S := S) (X := X) (L := L) (by omega) (by omega) (by omega) (Rd.own rfl) (Rd.own rfl) (Rd.own rfl) (fun hno => absurd hok hno) (fun _ c1 c2 => ?_)
    simp only [go_sem, Int.reduceToNat, List.take_nil, Nat.zero_mul, Nat.reduceEqDiff, Nat.reduceAdd, Nat.reduceLT, Nat.reduceLeDiff, Nat.reduceMul, ↓reduceIte, reduceCtorEq]
    refine spec_RunResources_ (S := S) (X := X) (L := L) (by omega) (by omega) (by omega) (Rd.own rfl) (Rd.own rfl) (Rd.own rfl) (fun hno => absurd hok hno) (fun _ => ?_)
    rintro x τ (⟨hno, _⟩ | ⟨_, d1, d2, ⟨hne, rfl, rfl⟩ | ⟨hne, rfl, rfl⟩⟩)
    · exact absurd trivial hno
    all_goals
      simp only [go_sem, Int.reduceToNat, List.take_nil, Nat.zero_mul, Nat.reduceEqDiff, Nat.reduceAdd, Nat.reduceLT, Nat.reduceLeDiff, Nat.reduceMul, ↓reduceIte, reduceCtorEq]
      refine laws_sameSchedule_ (X1 := srpRun S X L) (Y1 := srpFin S X L) (X2 := srpRun S X L) (Y2 := srpFin S X L) (Rd.owl rfl hR) (Rd.owl rfl hF) (Rd.owl rfl hR) (by first | exact Rd.own rfl | (rw [hne]; exact Rd.none (by simp))) (by omega) (by omega) ?_
      simp only [not_true_eq_false, not_false_eq_true, decide_true, decide_false, Bool.not_true, Bool.not_false, false_implies, true_implies, and_true, true_and, Bool.false_eq_true, Bool.true_eq_false, implies_true, Bool.not_not, Classical.not_not, go_sem, Int.reduceToNat, List.take_nil, Nat.zero_mul, Nat.reduceEqDiff, Nat.reduceAdd, Nat.reduceLT, Nat.reduceLeDiff, Nat.reduceMul, ↓reduceIte, reduceCtorEq]

      refine spec_JobsLegal_ (S := S) (L := L) (by omega) (by omega) (Rd.own rfl) (Rd.own rfl) ?_
      simp only [hv, not_true_eq_false, not_false_eq_true, decide_true, decide_false, Bool.not_true, Bool.not_false, false_implies, true_implies, and_true, true_and, Bool.false_eq_true, Bool.true_eq_false, implies_true, Bool.not_not, Classical.not_not, go_sem, Int.reduceToNat, List.take_nil, Nat.zero_mul, Nat.reduceEqDiff, Nat.reduceAdd, Nat.reduceLT, Nat.reduceLeDiff, Nat.reduceMul, ↓reduceIte, reduceCtorEq]
      refine impl_ResourcesFeasible_ (S := S) (X := X) (by omega) (by omega) (Rd.own rfl) (Rd.own rfl) ?_
      by_cases hf : resFeas S X
      · simp only [hf, not_true_eq_false, not_false_eq_true, decide_true, decide_false, Bool.not_true, Bool.not_false, false_implies, true_implies, and_true, true_and, Bool.false_eq_true, Bool.true_eq_false, implies_true, Bool.not_not, Classical.not_not, go_sem, Int.reduceToNat, List.take_nil, Nat.zero_mul, Nat.reduceEqDiff, Nat.reduceAdd, Nat.reduceLT, Nat.reduceLeDiff, Nat.reduceMul, ↓reduceIte, reduceCtorEq]
        refine impl_Missed_ (L := L) (fin := srpFin S X L) (by omega) hF (Rd.own rfl) (Rd.len' rfl hF) (fun _ => ?_) (fun ne => absurd (srp_safe hok.1 hv hf.2) ne)
        simp only [not_true_eq_false, not_false_eq_true, decide_true, decide_false, Bool.not_true, Bool.not_false, false_implies, true_implies, and_true, true_and, Bool.false_eq_true, Bool.true_eq_false, implies_true, Bool.not_not, Classical.not_not, go_sem, Int.reduceToNat, List.take_nil, Nat.zero_mul, Nat.reduceEqDiff, Nat.reduceAdd, Nat.reduceLT, Nat.reduceLeDiff, Nat.reduceMul, ↓reduceIte, reduceCtorEq]
        exact Fin.plain rfl
      · simp only [hf, not_true_eq_false, not_false_eq_true, decide_true, decide_false, Bool.not_true, Bool.not_false, false_implies, true_implies, and_true, true_and, Bool.false_eq_true, Bool.true_eq_false, implies_true, Bool.not_not, Classical.not_not, go_sem, Int.reduceToNat, List.take_nil, Nat.zero_mul, Nat.reduceEqDiff, Nat.reduceAdd, Nat.reduceLT, Nat.reduceLeDiff, Nat.reduceMul, ↓reduceIte, reduceCtorEq]
        refine laws_alive_ ?_
        simp only [not_true_eq_false, not_false_eq_true, decide_true, decide_false, Bool.not_true, Bool.not_false, false_implies, true_implies, and_true, true_and, Bool.false_eq_true, Bool.true_eq_false, implies_true, Bool.not_not, Classical.not_not, go_sem, Int.reduceToNat, List.take_nil, Nat.zero_mul, Nat.reduceEqDiff, Nat.reduceAdd, Nat.reduceLT, Nat.reduceLeDiff, Nat.reduceMul, ↓reduceIte, reduceCtorEq]
        exact Fin.plain rfl
  · refine impl_RunResources_ (S := S) (X := X) (L := L) (by omega) (by omega) (by omega) (Rd.own rfl) (Rd.own rfl) (Rd.own rfl) (fun _ => ?_) (fun h => absurd h hok)
    simp only [go_sem, Int.reduceToNat, List.take_nil, Nat.zero_mul, Nat.reduceEqDiff, Nat.reduceAdd, Nat.reduceLT, Nat.reduceLeDiff, Nat.reduceMul, ↓reduceIte, reduceCtorEq]
    refine spec_RunResources_ (S := S) (X := X) (L := L) (by omega) (by omega) (by omega) (Rd.own rfl) (Rd.own rfl) (Rd.own rfl) (fun _ => ?_) (fun h => absurd h hok)
    simp only [go_sem, Int.reduceToNat, List.take_nil, Nat.zero_mul, Nat.reduceEqDiff, Nat.reduceAdd, Nat.reduceLT, Nat.reduceLeDiff, Nat.reduceMul, ↓reduceIte, reduceCtorEq]
    refine laws_sameSchedule_ (X1 := []) (Y1 := []) (X2 := []) (Y2 := []) (Rd.none (by simp)) (Rd.none (by simp)) (Rd.none (by simp)) (Rd.none (by simp)) (by simp) (by simp) ?_
    simp only [not_true_eq_false, not_false_eq_true, decide_true, decide_false, Bool.not_true, Bool.not_false, false_implies, true_implies, and_true, true_and, Bool.false_eq_true, Bool.true_eq_false, implies_true, Bool.not_not, Classical.not_not, go_sem, Int.reduceToNat, List.take_nil, Nat.zero_mul, Nat.reduceEqDiff, Nat.reduceAdd, Nat.reduceLT, Nat.reduceLeDiff, Nat.reduceMul, ↓reduceIte, reduceCtorEq]

    refine spec_JobsLegal_ (S := S) (L := L) (by omega) (by omega) (Rd.own rfl) (Rd.own rfl) ?_
    by_cases hL : jobsLegal S L
    · simp only [hL, not_true_eq_false, not_false_eq_true, decide_true, decide_false, Bool.not_true, Bool.not_false, false_implies, true_implies, and_true, true_and, Bool.false_eq_true, Bool.true_eq_false, implies_true, Bool.not_not, Classical.not_not, go_sem, Int.reduceToNat, List.take_nil, Nat.zero_mul, Nat.reduceEqDiff, Nat.reduceAdd, Nat.reduceLT, Nat.reduceLeDiff, Nat.reduceMul, ↓reduceIte, reduceCtorEq]
      refine impl_ResourcesFeasible_ (S := S) (X := X) (by omega) (by omega) (Rd.own rfl) (Rd.own rfl) ?_
      have hf : ¬ resFeas S X := fun h => hok ⟨h.1, hL⟩
      simp only [hf, not_true_eq_false, not_false_eq_true, decide_true, decide_false, Bool.not_true, Bool.not_false, false_implies, true_implies, and_true, true_and, Bool.false_eq_true, Bool.true_eq_false, implies_true, Bool.not_not, Classical.not_not, go_sem, Int.reduceToNat, List.take_nil, Nat.zero_mul, Nat.reduceEqDiff, Nat.reduceAdd, Nat.reduceLT, Nat.reduceLeDiff, Nat.reduceMul, ↓reduceIte, reduceCtorEq]
      refine laws_alive_ ?_
      simp only [not_true_eq_false, not_false_eq_true, decide_true, decide_false, Bool.not_true, Bool.not_false, false_implies, true_implies, and_true, true_and, Bool.false_eq_true, Bool.true_eq_false, implies_true, Bool.not_not, Classical.not_not, go_sem, Int.reduceToNat, List.take_nil, Nat.zero_mul, Nat.reduceEqDiff, Nat.reduceAdd, Nat.reduceLT, Nat.reduceLeDiff, Nat.reduceMul, ↓reduceIte, reduceCtorEq]
      exact Fin.plain rfl
    · simp only [hL, not_true_eq_false, not_false_eq_true, decide_true, decide_false, Bool.not_true, Bool.not_false, false_implies, true_implies, and_true, true_and, Bool.false_eq_true, Bool.true_eq_false, implies_true, Bool.not_not, Classical.not_not, go_sem, Int.reduceToNat, List.take_nil, Nat.zero_mul, Nat.reduceEqDiff, Nat.reduceAdd, Nat.reduceLT, Nat.reduceLeDiff, Nat.reduceMul, ↓reduceIte, reduceCtorEq]
      refine laws_alive_ ?_
      simp only [not_true_eq_false, not_false_eq_true, decide_true, decide_false, Bool.not_true, Bool.not_false, false_implies, true_implies, and_true, true_and, Bool.false_eq_true, Bool.true_eq_false, implies_true, Bool.not_not, Classical.not_not, go_sem, Int.reduceToNat, List.take_nil, Nat.zero_mul, Nat.reduceEqDiff, Nat.reduceAdd, Nat.reduceLT, Nat.reduceLeDiff, Nat.reduceMul, ↓reduceIte, reduceCtorEq]
      exact Fin.plain rfl
theorem c_FnResourcesSafe (C : List Nat) (c : Nat) (hC : ∀ x ∈ C, x < 256) (_ : C.length * 1 ≤ 140737488351232) (hc : C.length ≤ c) :
    CallWp Try.prog n_laws_FnResourcesSafe [.sl 0 0 C.length c] [.ro (encByte.row C)] (fun x _ => x = .b true) := laws_FnResourcesSafe0 C hC c hc

theorem laws_FnResourcesBlocked0 (C : List Nat) (hC : ∀ x ∈ C, x < 256) (c : Nat) (hc : C.length ≤ c) : CallWp Try.prog n_laws_FnResourcesBlocked [.sl 0 0 C.length c] [.ro (encByte.row C)] (fun x _ => x = .b true) := by
  refine call_laws_FnResourcesBlocked (by simp) ?_
  simp only [c_laws_FnResourcesBlocked, go_sem, Int.reduceToNat, List.take_nil, Nat.zero_mul, Nat.reduceEqDiff, Nat.reduceAdd, Nat.reduceLT, Nat.reduceLeDiff, Nat.reduceMul, ↓reduceIte, reduceCtorEq]
  refine ⟨fun h => Fin.plain rfl, fun h => ?_⟩
  refine (spec_DrawRunResources0 C hC c hc).mono ?_
  rintro x σ' _ ⟨S, X, L, cap, cap2, cap', rfl, rfl, hS8, hX9, hL62⟩
  simp only [go_sem, Int.reduceToNat, List.take_nil, Nat.zero_mul, Nat.reduceEqDiff, Nat.reduceAdd, Nat.reduceLT, Nat.reduceLeDiff, Nat.reduceMul, ↓reduceIte, reduceCtorEq]
  have hR := srpRun_length S X L
  have hF := srpFin_length S X L
  by_cases hok : resOk S X L
  · have hv := hok.2
    refine impl_RunResources_ (S := S) (X := X) (L := L) (by omega) (by omega) (by omega) (Rd.own rfl) (Rd.own rfl) (Rd.own rfl) (fun hno => absurd hok hno) (fun _ c1 c2 => ?_)
    simp only [go_sem, Int.reduceToNat, List.take_nil, Nat.zero_mul, Nat.reduceEqDiff, Nat.reduceAdd, Nat.reduceLT, Nat.reduceLeDiff, Nat.reduceMul, ↓reduceIte, reduceCtorEq]
    refine spec_RunResources_ (S := S) (X := X) (L := L) (by omega) (by omega) (by omega) (Rd.own rfl) (Rd.own rfl) (Rd.own rfl) (fun hno => absurd hok hno) (fun _ => ?_)
    rintro x τ (⟨hno, _⟩ | ⟨_, d1, d2, ⟨hne, rfl, rfl⟩ | ⟨hne, rfl, rfl⟩⟩)
    · exact absurd trivial hno
    all_goals
      simp only [go_sem, Int.reduceToNat, List.take_nil, Nat.zero_mul, Nat.reduceEqDiff, Nat.reduceAdd, Nat.reduceLT, Nat.reduceLeDiff, Nat.reduceMul, ↓reduceIte, reduceCtorEq]
      refine laws_sameSchedule_ (X1 := srpRun S X L) (Y1 := srpFin S X L) (X2 := srpRun S X L) (Y2 := srpFin S X L) (Rd.owl rfl hR) (Rd.owl rfl hF) (Rd.owl rfl hR) (by first | exact Rd.own rfl | (rw [hne]; exact Rd.none (by simp))) (by omega) (by omega) ?_
      simp only [not_true_eq_false, not_false_eq_true, decide_true, decide_false, Bool.not_true, Bool.not_false, false_implies, true_implies, and_true, true_and, Bool.false_eq_true, Bool.true_eq_false, implies_true, Bool.not_not, Classical.not_not, go_sem, Int.reduceToNat, List.take_nil, Nat.zero_mul, Nat.reduceEqDiff, Nat.reduceAdd, Nat.reduceLT, Nat.reduceLeDiff, Nat.reduceMul, ↓reduceIte, reduceCtorEq]

      refine ⟨fun _ => ?_, fun h => absurd rfl h⟩
      refine impl_ResourcesFeasible_ (S := S) (X := X) (by omega) (by omega) (Rd.own rfl) (Rd.own rfl) ?_
      simp only [not_true_eq_false, not_false_eq_true, decide_true, decide_false, Bool.not_true, Bool.not_false, false_implies, true_implies, and_true, true_and, Bool.false_eq_true, Bool.true_eq_false, implies_true, Bool.not_not, Classical.not_not, go_sem, Int.reduceToNat, List.take_nil, Nat.zero_mul, Nat.reduceEqDiff, Nat.reduceAdd, Nat.reduceLT, Nat.reduceLeDiff, Nat.reduceMul, ↓reduceIte, reduceCtorEq]
      refine ⟨fun _ => laws_alive_ ?_, fun _ => ?_⟩
      · simp only [not_true_eq_false, not_false_eq_true, decide_true, decide_false, Bool.not_true, Bool.not_false, false_implies, true_implies, and_true, true_and, Bool.false_eq_true, Bool.true_eq_false, implies_true, Bool.not_not, Classical.not_not, go_sem, Int.reduceToNat, List.take_nil, Nat.zero_mul, Nat.reduceEqDiff, Nat.reduceAdd, Nat.reduceLT, Nat.reduceLeDiff, Nat.reduceMul, ↓reduceIte, reduceCtorEq]
        exact Fin.plain rfl
      have ok := srpOk_of hok.1 hv
      refine loop_count X.length (fun k => ⟨[(4, .sl 2 0 X.length cap2), (5, .sl 3 0 L.length cap'), (6, .p 6 0), (7, .i .i64 (longN X k)), (8, .i .i64 k)], [.ro (encByte.row C), .rw ty_impl_Task (encTask.row S) (cap * 3), .rw ty_impl_Section (encSec.row X) (cap2 * 3), .rw ty_impl_Job (encJob.row L) (cap' * 4), .rw ty_int (encInt.row (srpRun S X L)) c1, .rw ty_int (encInt.row (srpFin S X L)) c2, .rw ty_impl_Schedule [.sl 4 0 120 c1, .sl 5 0 L.length c2] 2]⟩)
        (fun _ => True) trivial (by show Wk 1 104 _ ⟨[(4, .sl 2 0 X.length cap2), (5, .sl 3 0 L.length cap'), (6, .p 6 0), (7, .i .i64 0), (8, .i .i64 0)], _⟩; exact Wk.pick [0, 1, 2, 3, 4, 5, 6]) fun k hk _ => ?_
      simp only [l2_laws_FnResourcesBlocked, not_true_eq_false, not_false_eq_true, decide_true, decide_false, Bool.not_true, Bool.not_false, false_implies, true_implies, and_true, true_and, Bool.false_eq_true, Bool.true_eq_false, implies_true, Bool.not_not, Classical.not_not, go_sem, Int.reduceToNat, List.take_nil, Nat.zero_mul, Nat.reduceEqDiff, Nat.reduceAdd, Nat.reduceLT, Nat.reduceLeDiff, Nat.reduceMul, ↓reduceIte, reduceCtorEq]
      refine ⟨fun hl => ?_, fun hl => ?_⟩
      · have hsx := hok.1.2.2 k hl
        rw [gX_at hl] at hsx
        unfold secOk at hsx
        have hsucc : longN X (k + 1) = if longN X k < X[k].Ln then X[k].Ln else longN X k := by rw [← gX_at hl]; rfl
        simp only [rdX1 hl, lenX, not_true_eq_false, not_false_eq_true, decide_true, decide_false, Bool.not_true, Bool.not_false, false_implies, true_implies, and_true, true_and, Bool.false_eq_true, Bool.true_eq_false, implies_true, Bool.not_not, Classical.not_not, go_sem, Int.reduceToNat, List.take_nil, Nat.zero_mul, Nat.reduceEqDiff, Nat.reduceAdd, Nat.reduceLT, Nat.reduceLeDiff, Nat.reduceMul, ↓reduceIte, reduceCtorEq]
        rw [hsucc]
        exact ⟨by omega, by omega, by omega, hl, Wk.pick [0, 1, 2, 3, 4, 5, 6]⟩
      · have ek : k = X.length := by omega
        subst ek
        have hlong : ∀ k, k < L.length → (jX X L k).Ln ≤ longN X X.length := fun k hk => by
          have hi2 := (hv.2.1.mem (getD_mem hk)).1
          obtain ⟨q, hq⟩ := Int.eq_ofNat_of_zero_le hi2.1
          unfold jX
          rw [hq]
          exact longN_ge (by have := hok.1.2.1; omega)
        have hlong0 := longN_pos X X.length
        refine loop_count L.length (fun k => ⟨[(5, .sl 3 0 L.length cap'), (6, .p 6 0), (7, .i .i64 (longN X X.length)), (9, .i .i64 k)], [.ro (encByte.row C), .rw ty_impl_Task (encTask.row S) (cap * 3), .rw ty_impl_Section (encSec.row X) (cap2 * 3), .rw ty_impl_Job (encJob.row L) (cap' * 4), .rw ty_int (encInt.row (srpRun S X L)) c1, .rw ty_int (encInt.row (srpFin S X L)) c2, .rw ty_impl_Schedule [.sl 4 0 120 c1, .sl 5 0 L.length c2] 2]⟩)
          (fun _ => True) trivial (Wk.pick [0, 1, 2, 3, 4, 5, 6]) fun k hk _ => ?_
        simp only [l1_laws_FnResourcesBlocked, not_true_eq_false, not_false_eq_true, decide_true, decide_false, Bool.not_true, Bool.not_false, false_implies, true_implies, and_true, true_and, Bool.false_eq_true, Bool.true_eq_false, implies_true, Bool.not_not, Classical.not_not, go_sem, Int.reduceToNat, List.take_nil, Nat.zero_mul, Nat.reduceEqDiff, Nat.reduceAdd, Nat.reduceLT, Nat.reduceLeDiff, Nat.reduceMul, ↓reduceIte, reduceCtorEq]
        refine ⟨fun hl => ?_, fun hl => Fin.plain rfl⟩
        have hm := hv.2.1.mem (List.getElem_mem hl)
        obtain ⟨r, hr⟩ := Int.eq_ofNat_of_zero_le hm.2.1.1
        have hkF : k < (srpFin S X L).length := by omega
        have gL : L.getD k default = L[k] := by simp [List.getD_eq_getElem?_getD, hl]
        simp only [rdJ1 hl, hr, lenJ, not_true_eq_false, not_false_eq_true, decide_true, decide_false, Bool.not_true, Bool.not_false, false_implies, true_implies, and_true, true_and, Bool.false_eq_true, Bool.true_eq_false, implies_true, Bool.not_not, Classical.not_not, go_sem, Int.reduceToNat, List.take_nil, Nat.zero_mul, Nat.reduceEqDiff, Nat.reduceAdd, Nat.reduceLT, Nat.reduceLeDiff, Nat.reduceMul, ↓reduceIte, reduceCtorEq]
        refine ⟨by omega, by omega, ?_⟩
        have hfin : (srpFin S X L)[k] = -1 ∨ ∃ f : Nat, (srpFin S X L)[k] = f ∧ f ≤ 120 ∧ r < f := by
          have hi := runInv (srp_fair S X L) ok.E 120 k hl
          rcases hi.fin with ⟨h1, _⟩ | ⟨f, h1, h2, h3, _, h5, _⟩
          · exact .inl ((gI_row hkF).symm.trans h1)
          · refine .inr ⟨f, (gI_row hkF).symm.trans h1, h3, ?_⟩
            rw [simU_at (show f - 1 < 120 by omega)] at h5
            rcases srp_fair S X L (f - 1) (simU L (srpPick S X L) (f - 1)).done with e | ⟨n, e, hn, hrd⟩
            · omega
            · obtain rfl : n = k := by omega
              unfold readyJ at hrd
              rw [decide_eq_true_eq, gL] at hrd
              omega
        refine loop_count (((srpFin S X L)[k]).toNat - r) (fun m => ⟨[(5, .sl 3 0 L.length cap'), (6, .p 6 0), (7, .i .i64 (longN X X.length)), (9, .i .i64 k), (10, .i .i64 (free (lateT S X L (keyD L k)) r m)), (11, .i .i64 ((r + m : Nat) : Int))], [.ro (encByte.row C), .rw ty_impl_Task (encTask.row S) (cap * 3), .rw ty_impl_Section (encSec.row X) (cap2 * 3), .rw ty_impl_Job (encJob.row L) (cap' * 4), .rw ty_int (encInt.row (srpRun S X L)) c1, .rw ty_int (encInt.row (srpFin S X L)) c2, .rw ty_impl_Schedule [.sl 4 0 120 c1, .sl 5 0 L.length c2] 2]⟩)
          (fun _ => True) trivial (by show Wk 1 104 _ ⟨[(5, .sl 3 0 L.length cap'), (6, .p 6 0), (7, .i .i64 (longN X X.length)), (9, .i .i64 k), (10, .i .i64 0), (11, .i .i64 ((r : Nat) : Int))], _⟩; exact Wk.pick [0, 1, 2, 3, 4, 5, 6]) fun m hm' _ => ?_
        simp only [l0_laws_FnResourcesBlocked, rdI hkF, lenI, hF, not_true_eq_false, not_false_eq_true, decide_true, decide_false, Bool.not_true, Bool.not_false, false_implies, true_implies, and_true, true_and, Bool.false_eq_true, Bool.true_eq_false, implies_true, Bool.not_not, Classical.not_not, go_sem, Int.reduceToNat, List.take_nil, Nat.zero_mul, Nat.reduceEqDiff, Nat.reduceAdd, Nat.reduceLT, Nat.reduceLeDiff, Nat.reduceMul, ↓reduceIte, reduceCtorEq]
        refine ⟨by omega, by omega, fun hlt => ?_, fun hge => ?_⟩
        · have hb := free_bound (lateT S X L (keyD L k)) r m
          have hfree : free (lateT S X L (keyD L k)) r (m + 1) = free (lateT S X L (keyD L k)) r m + if lateT S X L (keyD L k) (r + m) then 1 else 0 := rfl
          have hkR : r + m < (srpRun S X L).length := by
            rcases hfin with e | ⟨f, e, h1, h2⟩ <;> omega
          have hkR' : r + m < 120 := by omega
          have er := simU_at (L := L) (pick := srpPick S X L) hkR'
          change gI (srpRun S X L) ((r + m : Nat) : Int) = _ at er
          rw [gI_row hkR] at er
          have hlate : lateT S X L (keyD L k) (r + m) = decide (0 ≤ (srpRun S X L)[r + m] ∧ keyD L k < keyD L (srpRun S X L)[r + m].toNat) := by rw [er]; rfl
          rw [hlate] at hfree
          rcases srp_tick hv hkR' hkR with e | ⟨n, hn, e, f1⟩
          · have hno : ¬ (0 ≤ (srpRun S X L)[r + m] ∧ keyD L k < keyD L (srpRun S X L)[r + m].toNat) := by omega
            rw [decide_eq_false hno, if_neg (by simp)] at hfree
            have hx : ((r + (m + 1) : Nat) : Int) = ((r + m : Nat) : Int) + 1 := by omega
            simp only [rdI hkR, e, lenI, lenJ, hR, hF, hfree, hx, Int.add_zero, not_true_eq_false, not_false_eq_true, decide_true, decide_false, Bool.not_true, Bool.not_false, false_implies, true_implies, and_true, true_and, Bool.false_eq_true, Bool.true_eq_false, implies_true, Bool.not_not, Classical.not_not, go_sem, Int.reduceToNat, List.take_nil, Nat.zero_mul, Nat.reduceEqDiff, Nat.reduceAdd, Nat.reduceLT, Nat.reduceLeDiff, Nat.reduceMul, ↓reduceIte, reduceCtorEq]
            repeat' first | omega | (exfalso; omega) | exact Wk.pick [0, 1, 2, 3, 4, 5, 6] | refine ⟨?_, ?_⟩ | intro _
          · have hkn : keyD L n = L[n].D := by unfold keyD; rw [getD_at hn]
            have hkk : keyD L k = L[k].D := by unfold keyD; rw [gL]
            have hx : ((r + (m + 1) : Nat) : Int) = ((r + m : Nat) : Int) + 1 := by omega
            rw [e, Int.toNat_natCast, hkn, hkk] at hfree
            rw [← hkk] at hfree
            by_cases hlt2 : L[k].D < L[n].D
            · rw [if_pos (decide_eq_true ⟨by omega, by omega⟩)] at hfree
              simp only [rdI hkR, e, rdJ2 hn, rdJ2 hl, Int.toNat_natCast, lenI, lenJ, hR, hF, hfree, hx, not_true_eq_false, not_false_eq_true, decide_true, decide_false, Bool.not_true, Bool.not_false, false_implies, true_implies, and_true, true_and, Bool.false_eq_true, Bool.true_eq_false, implies_true, Bool.not_not, Classical.not_not, go_sem, Int.reduceToNat, List.take_nil, Nat.zero_mul, Nat.reduceEqDiff, Nat.reduceAdd, Nat.reduceLT, Nat.reduceLeDiff, Nat.reduceMul, ↓reduceIte, reduceCtorEq]
              repeat' first | omega | (exfalso; omega) | exact Wk.pick [0, 1, 2, 3, 4, 5, 6] | refine ⟨?_, ?_⟩ | intro _
            · rw [if_neg (by rw [decide_eq_true_eq]; omega)] at hfree
              simp only [rdI hkR, e, rdJ2 hn, rdJ2 hl, Int.toNat_natCast, lenI, lenJ, hR, hF, hfree, hx, Int.add_zero, not_true_eq_false, not_false_eq_true, decide_true, decide_false, Bool.not_true, Bool.not_false, false_implies, true_implies, and_true, true_and, Bool.false_eq_true, Bool.true_eq_false, implies_true, Bool.not_not, Classical.not_not, go_sem, Int.reduceToNat, List.take_nil, Nat.zero_mul, Nat.reduceEqDiff, Nat.reduceAdd, Nat.reduceLT, Nat.reduceLeDiff, Nat.reduceMul, ↓reduceIte, reduceCtorEq]
              repeat' first | omega | (exfalso; omega) | exact Wk.pick [0, 1, 2, 3, 4, 5, 6] | refine ⟨?_, ?_⟩ | intro _
        · have hle : free (lateT S X L (keyD L k)) r m ≤ longN X X.length := by
            rcases hfin with e | ⟨f, e, h1, h2⟩
            · obtain rfl : m = 0 := by omega
              exact hlong0
            · obtain rfl : m = f - r := by omega
              exact srp_blocked ok hl (by rw [gL]; exact hr) ((gI_row hkF).trans e) hlong0 hlong
          exact ⟨fun h => absurd h (by omega), fun _ => ⟨by omega, hl, Wk.pick [0, 1, 2, 3, 4, 5, 6]⟩⟩
  · refine impl_RunResources_ (S := S) (X := X) (L := L) (by omega) (by omega) (by omega) (Rd.own rfl) (Rd.own rfl) (Rd.own rfl) (fun _ => ?_) (fun h => absurd h hok)
    simp only [go_sem, Int.reduceToNat, List.take_nil, Nat.zero_mul, Nat.reduceEqDiff, Nat.reduceAdd, Nat.reduceLT, Nat.reduceLeDiff, Nat.reduceMul, ↓reduceIte, reduceCtorEq]
    refine spec_RunResources_ (S := S) (X := X) (L := L) (by omega) (by omega) (by omega) (Rd.own rfl) (Rd.own rfl) (Rd.own rfl) (fun _ => ?_) (fun h => absurd h hok)
    simp only [go_sem, Int.reduceToNat, List.take_nil, Nat.zero_mul, Nat.reduceEqDiff, Nat.reduceAdd, Nat.reduceLT, Nat.reduceLeDiff, Nat.reduceMul, ↓reduceIte, reduceCtorEq]
    refine laws_sameSchedule_ (X1 := []) (Y1 := []) (X2 := []) (Y2 := []) (Rd.none (by simp)) (Rd.none (by simp)) (Rd.none (by simp)) (Rd.none (by simp)) (by simp) (by simp) ?_
    simp only [not_true_eq_false, not_false_eq_true, decide_true, decide_false, Bool.not_true, Bool.not_false, false_implies, true_implies, and_true, true_and, Bool.false_eq_true, Bool.true_eq_false, implies_true, Bool.not_not, Classical.not_not, go_sem, Int.reduceToNat, List.take_nil, Nat.zero_mul, Nat.reduceEqDiff, Nat.reduceAdd, Nat.reduceLT, Nat.reduceLeDiff, Nat.reduceMul, ↓reduceIte, reduceCtorEq]
    refine ⟨fun h => absurd h (by decide), fun _ => laws_alive_ ?_⟩
    simp only [not_true_eq_false, not_false_eq_true, decide_true, decide_false, Bool.not_true, Bool.not_false, false_implies, true_implies, and_true, true_and, Bool.false_eq_true, Bool.true_eq_false, implies_true, Bool.not_not, Classical.not_not, go_sem, Int.reduceToNat, List.take_nil, Nat.zero_mul, Nat.reduceEqDiff, Nat.reduceAdd, Nat.reduceLT, Nat.reduceLeDiff, Nat.reduceMul, ↓reduceIte, reduceCtorEq]
    exact Fin.plain rfl
theorem c_FnResourcesBlocked (C : List Nat) (c : Nat) (hC : ∀ x ∈ C, x < 256) (_ : C.length * 1 ≤ 140737488351232) (hc : C.length ≤ c) :
    CallWp Try.prog n_laws_FnResourcesBlocked [.sl 0 0 C.length c] [.ro (encByte.row C)] (fun x _ => x = .b true) := laws_FnResourcesBlocked0 C hC c hc

end Go.Proofs.Ytnlciginmeebhaa
