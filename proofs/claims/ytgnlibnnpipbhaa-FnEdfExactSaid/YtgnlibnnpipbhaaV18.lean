/- The law FnEdfExact answers true: over the abstract heap. -/
import Derived.Test.YtgnlibnnpipbhaaV5
import Derived.Test.YtgnlibnnpipbhaaS14
import Derived.Test.YtgnlibnnpipbhaaS21
import Derived.Test.YtgnlibnnpipbhaaS23
import Derived.Test.YtgnlibnnpipbhaaS24
import Derived.Test.YtgnlibnnpipbhaaM18
namespace Go.Proofs.Ytgnlibnnpipbhaa
open Go.Abs Go.Ds
set_option linter.unusedSimpArgs false
set_option linter.unusedVariables false
set_option maxRecDepth 20000
set_option maxHeartbeats 2000000

theorem spec_DrawFirstOverload0 (C : List Nat) (hC : ∀ x ∈ C, x < 256) (c : Nat) (hc : C.length ≤ c) : CallWp Try.prog n_spec_DrawFirstOverload [.sl 0 0 C.length c] [.ro (encByte.row C)] (fun x σ' => ∃ (S : List Task) (cap : Nat),
    x = .sl 1 0 S.length cap ∧ σ' = [.ro (encByte.row C), .rw ty_impl_Task (encTask.row S) (cap * 3)] ∧ S.length ≤ 8) := by
  refine call_spec_DrawFirstOverload (by simp) ?_
  simp only [c_spec_DrawFirstOverload, go_sem, Int.reduceToNat, List.take_nil, Nat.zero_mul, Nat.reduceEqDiff, Nat.reduceAdd, Nat.reduceLT, Nat.reduceLeDiff, Nat.reduceMul, ↓reduceIte, reduceCtorEq]
  refine (spec_l20Open0 C c hc).mono ?_
  rintro x σ' _ ⟨rfl, rfl⟩
  simp only [go_sem, Int.reduceToNat, List.take_nil, Nat.zero_mul, Nat.reduceEqDiff, Nat.reduceAdd, Nat.reduceLT, Nat.reduceLeDiff, Nat.reduceMul, ↓reduceIte, reduceCtorEq]
  refine spec_l20Set_ (Rdr.take (τ := [])) (Code.take hC) (by omega) _ (by omega) fun S cap p1 h11 h12 hS8 hS _ => ?_
  simp only [go_sem, Int.reduceToNat, List.take_nil, Nat.zero_mul, Nat.reduceEqDiff, Nat.reduceAdd, Nat.reduceLT, Nat.reduceLeDiff, Nat.reduceMul, ↓reduceIte, reduceCtorEq]
  exact Fin.pick [0, 2] (.sl 1 0 S.length cap) _ ⟨S, cap, rfl, rfl, hS8⟩

theorem laws_FnEdfExact0 (C : List Nat) (hC : ∀ x ∈ C, x < 256) (c : Nat) (hc : C.length ≤ c) : CallWp Try.prog n_laws_FnEdfExact [.sl 0 0 C.length c] [.ro (encByte.row C)] (fun x _ => x = .b true) := by
  refine call_laws_FnEdfExact (by simp) ?_
  simp only [c_laws_FnEdfExact, go_sem, Int.reduceToNat, List.take_nil, Nat.zero_mul, Nat.reduceEqDiff, Nat.reduceAdd, Nat.reduceLT, Nat.reduceLeDiff, Nat.reduceMul, ↓reduceIte, reduceCtorEq]
  refine ⟨fun h => Fin.plain rfl, fun h => ?_⟩
  refine (spec_DrawFirstOverload0 C hC c hc).mono ?_
  rintro x σ' _ ⟨S, cap, rfl, rfl, hS8⟩
  simp only [go_sem, Int.reduceToNat, List.take_nil, Nat.zero_mul, Nat.reduceEqDiff, Nat.reduceAdd, Nat.reduceLT, Nat.reduceLeDiff, Nat.reduceMul, ↓reduceIte, reduceCtorEq]
  by_cases hS : setOk S
  · refine impl_FirstOverload_ (S := S) (by omega) (Rd.own rfl) (fun hno => absurd hS hno) (fun _ r hr => ?_)
    simp only [not_true_eq_false, not_false_eq_true, decide_true, decide_false, Bool.not_true, Bool.not_false, false_implies, true_implies, and_true, true_and, Bool.false_eq_true, Bool.true_eq_false, implies_true, Bool.not_not, Classical.not_not, go_sem, Int.reduceToNat, List.take_nil, Nat.zero_mul, Nat.reduceEqDiff, Nat.reduceAdd, Nat.reduceLT, Nat.reduceLeDiff, Nat.reduceMul, ↓reduceIte, reduceCtorEq]
    refine spec_FirstOverload_ (S := S) (by omega) (Rd.own rfl) (fun hno => absurd hS hno) (fun _ r' hr' => ?_)
    obtain rfl := hr.same hr'
    simp only [not_true_eq_false, not_false_eq_true, decide_true, decide_false, Bool.not_true, Bool.not_false, false_implies, true_implies, and_true, true_and, Bool.false_eq_true, Bool.true_eq_false, implies_true, Bool.not_not, Classical.not_not, go_sem, Int.reduceToNat, List.take_nil, Nat.zero_mul, Nat.reduceEqDiff, Nat.reduceAdd, Nat.reduceLT, Nat.reduceLeDiff, Nat.reduceMul, ↓reduceIte, reduceCtorEq]
    by_cases hr1 : r < 0
    · simp only [hr1, not_true_eq_false, not_false_eq_true, decide_true, decide_false, Bool.not_true, Bool.not_false, false_implies, true_implies, and_true, true_and, Bool.false_eq_true, Bool.true_eq_false, implies_true, Bool.not_not, Classical.not_not, go_sem, Int.reduceToNat, List.take_nil, Nat.zero_mul, Nat.reduceEqDiff, Nat.reduceAdd, Nat.reduceLT, Nat.reduceLeDiff, Nat.reduceMul, ↓reduceIte, reduceCtorEq]
      refine laws_alive_ ?_
      simp only [not_true_eq_false, not_false_eq_true, decide_true, decide_false, Bool.not_true, Bool.not_false, false_implies, true_implies, and_true, true_and, Bool.false_eq_true, Bool.true_eq_false, implies_true, Bool.not_not, Classical.not_not, go_sem, Int.reduceToNat, List.take_nil, Nat.zero_mul, Nat.reduceEqDiff, Nat.reduceAdd, Nat.reduceLT, Nat.reduceLeDiff, Nat.reduceMul, ↓reduceIte, reduceCtorEq]
      exact Fin.plain rfl
    by_cases hr2 : 120 < r
    · simp only [hr1, hr2, not_true_eq_false, not_false_eq_true, decide_true, decide_false, Bool.not_true, Bool.not_false, false_implies, true_implies, and_true, true_and, Bool.false_eq_true, Bool.true_eq_false, implies_true, Bool.not_not, Classical.not_not, go_sem, Int.reduceToNat, List.take_nil, Nat.zero_mul, Nat.reduceEqDiff, Nat.reduceAdd, Nat.reduceLT, Nat.reduceLeDiff, Nat.reduceMul, ↓reduceIte, reduceCtorEq]
      refine laws_alive_ ?_
      simp only [not_true_eq_false, not_false_eq_true, decide_true, decide_false, Bool.not_true, Bool.not_false, false_implies, true_implies, and_true, true_and, Bool.false_eq_true, Bool.true_eq_false, implies_true, Bool.not_not, Classical.not_not, go_sem, Int.reduceToNat, List.take_nil, Nat.zero_mul, Nat.reduceEqDiff, Nat.reduceAdd, Nat.reduceLT, Nat.reduceLeDiff, Nat.reduceMul, ↓reduceIte, reduceCtorEq]
      exact Fin.plain rfl
    have hover : 1 ≤ r ∧ r < dbf S r := by
      rcases hr with ⟨h1, _⟩ | ⟨h1, _, h2, _⟩
      · omega
      · exact ⟨h1, h2⟩
    obtain ⟨N, rfl⟩ := Int.eq_ofNat_of_zero_le (show 0 ≤ r by omega)
    have hN : N ≤ 120 := by omega
    have hL := sync_legal hS (show ((N : Nat) : Int) ≤ 120 by omega) N
    have h60 := sync_60 S N N
    have hmiss := fun (h : (sync S N N).length < 60) (pick : Nat → List Int → Int) (hf : Go.Ds.Fair (sync S N N) pick) => over_missed hS hN h hover.2 hf
    simp only [hr1, hr2, not_true_eq_false, not_false_eq_true, decide_true, decide_false, Bool.not_true, Bool.not_false, false_implies, true_implies, and_true, true_and, Bool.false_eq_true, Bool.true_eq_false, implies_true, Bool.not_not, Classical.not_not, go_sem, Int.reduceToNat, List.take_nil, Nat.zero_mul, Nat.reduceEqDiff, Nat.reduceAdd, Nat.reduceLT, Nat.reduceLeDiff, Nat.reduceMul, ↓reduceIte, reduceCtorEq]
    refine impl_Synchronous_ (S := S) (lim := N) (by omega) (Rd.own rfl) (fun hno => ?_) (fun _ hne cS => ?_)
    · have e : sync S N N = [] := hno.resolve_left fun hn => hn ⟨hS, by omega, by omega⟩
      exfalso
      refine hmiss (by rw [e]; decide) _ (edf_fair _) ?_
      rw [e]; rfl
    · simp only [Int.toNat_natCast] at hne ⊢
      generalize sync S N N = L at *
      have hEF := edfFin_length L
      simp only [not_true_eq_false, not_false_eq_true, decide_true, decide_false, Bool.not_true, Bool.not_false, false_implies, true_implies, and_true, true_and, Bool.false_eq_true, Bool.true_eq_false, implies_true, Bool.not_not, Classical.not_not, go_sem, Int.reduceToNat, List.take_nil, Nat.zero_mul, Nat.reduceEqDiff, Nat.reduceAdd, Nat.reduceLT, Nat.reduceLeDiff, Nat.reduceMul, ↓reduceIte, reduceCtorEq]
      refine ⟨fun _ => laws_alive_ ?_, fun hne60 => ?_⟩
      · simp only [not_true_eq_false, not_false_eq_true, decide_true, decide_false, Bool.not_true, Bool.not_false, false_implies, true_implies, and_true, true_and, Bool.false_eq_true, Bool.true_eq_false, implies_true, Bool.not_not, Classical.not_not, go_sem, Int.reduceToNat, List.take_nil, Nat.zero_mul, Nat.reduceEqDiff, Nat.reduceAdd, Nat.reduceLT, Nat.reduceLeDiff, Nat.reduceMul, ↓reduceIte, reduceCtorEq]
        exact Fin.plain rfl
      have hm1 : missedL L (edfFin L) ≠ [] := hmiss (by omega) _ (edf_fair L)
      have hp1 : (0 : Int) < (missedL L (edfFin L)).length := by
        have := List.length_pos_iff.2 hm1
        omega
      refine impl_RunEdf_ (S := S) (L := L) (by omega) (by omega) (Rd.own rfl) (Rd.own rfl) (fun hno => absurd hL hno) (fun _ c1 c2 => ?_)
      simp only [not_true_eq_false, not_false_eq_true, decide_true, decide_false, Bool.not_true, Bool.not_false, false_implies, true_implies, and_true, true_and, Bool.false_eq_true, Bool.true_eq_false, implies_true, Bool.not_not, Classical.not_not, go_sem, Int.reduceToNat, List.take_nil, Nat.zero_mul, Nat.reduceEqDiff, Nat.reduceAdd, Nat.reduceLT, Nat.reduceLeDiff, Nat.reduceMul, ↓reduceIte, reduceCtorEq]
      refine impl_Missed_ (L := L) (fin := edfFin L) (by omega) hEF (Rd.own rfl) (Rd.len' rfl hEF) (fun e => absurd e hm1) (fun _ cM => ?_)
      simp only [not_true_eq_false, not_false_eq_true, decide_true, decide_false, Bool.not_true, Bool.not_false, false_implies, true_implies, and_true, true_and, Bool.false_eq_true, Bool.true_eq_false, implies_true, Bool.not_not, Classical.not_not, go_sem, Int.reduceToNat, List.take_nil, Nat.zero_mul, Nat.reduceEqDiff, Nat.reduceAdd, Nat.reduceLT, Nat.reduceLeDiff, Nat.reduceMul, ↓reduceIte, reduceCtorEq]
      refine impl_DeadlineMonotonic_ (S := S) (by omega) (Rd.own rfl) (fun hno => absurd hS hno) (fun O capO cc hO => ?_)
      have hFF := fixFin_length O L
      have hm2 : missedL L (fixFin O L) ≠ [] := hmiss (by omega) _ (fix_fair O L)
      have hp2 : (0 : Int) < (missedL L (fixFin O L)).length := by
        have := List.length_pos_iff.2 hm2
        omega
      have hOl := hO.2.1
      simp only [not_true_eq_false, not_false_eq_true, decide_true, decide_false, Bool.not_true, Bool.not_false, false_implies, true_implies, and_true, true_and, Bool.false_eq_true, Bool.true_eq_false, implies_true, Bool.not_not, Classical.not_not, go_sem, Int.reduceToNat, List.take_nil, Nat.zero_mul, Nat.reduceEqDiff, Nat.reduceAdd, Nat.reduceLT, Nat.reduceLeDiff, Nat.reduceMul, ↓reduceIte, reduceCtorEq]
      refine impl_RunFixed_ (S := S) (O := O) (L := L) (by omega) (by omega) (by omega) (Rd.own rfl) (Rd.len' rfl hOl) (Rd.own rfl) (fun hno => absurd ⟨hO, hL⟩ hno) (fun _ c3 c4 => ?_)
      simp only [not_true_eq_false, not_false_eq_true, decide_true, decide_false, Bool.not_true, Bool.not_false, false_implies, true_implies, and_true, true_and, Bool.false_eq_true, Bool.true_eq_false, implies_true, Bool.not_not, Classical.not_not, go_sem, Int.reduceToNat, List.take_nil, Nat.zero_mul, Nat.reduceEqDiff, Nat.reduceAdd, Nat.reduceLT, Nat.reduceLeDiff, Nat.reduceMul, ↓reduceIte, reduceCtorEq]
      refine impl_Missed_ (L := L) (fin := fixFin O L) (by omega) hFF (Rd.own rfl) (Rd.len' rfl hFF) (fun e => absurd e hm2) (fun _ cM2 => ?_)
      simp only [not_true_eq_false, not_false_eq_true, decide_true, decide_false, Bool.not_true, Bool.not_false, false_implies, true_implies, and_true, true_and, Bool.false_eq_true, Bool.true_eq_false, implies_true, Bool.not_not, Classical.not_not, go_sem, Int.reduceToNat, List.take_nil, Nat.zero_mul, Nat.reduceEqDiff, Nat.reduceAdd, Nat.reduceLT, Nat.reduceLeDiff, Nat.reduceMul, ↓reduceIte, reduceCtorEq]
      refine ⟨fun _ => ⟨fun _ => impl_JobsLegal_ (S := S) (L := L) (by omega) (by omega) (Rd.own rfl) (Rd.own rfl) ?_, fun h => absurd hp2 h⟩, fun h => absurd hp1 h⟩
      simp only [hL, not_true_eq_false, not_false_eq_true, decide_true, decide_false, Bool.not_true, Bool.not_false, false_implies, true_implies, and_true, true_and, Bool.false_eq_true, Bool.true_eq_false, implies_true, Bool.not_not, Classical.not_not, go_sem, Int.reduceToNat, List.take_nil, Nat.zero_mul, Nat.reduceEqDiff, Nat.reduceAdd, Nat.reduceLT, Nat.reduceLeDiff, Nat.reduceMul, ↓reduceIte, reduceCtorEq]
      exact Fin.plain rfl
  · refine impl_FirstOverload_ (S := S) (by omega) (Rd.own rfl) (fun _ => ?_) (fun h1 => absurd h1 hS)
    simp only [not_true_eq_false, not_false_eq_true, decide_true, decide_false, Bool.not_true, Bool.not_false, false_implies, true_implies, and_true, true_and, Bool.false_eq_true, Bool.true_eq_false, implies_true, Bool.not_not, Classical.not_not, go_sem, Int.reduceToNat, List.take_nil, Nat.zero_mul, Nat.reduceEqDiff, Nat.reduceAdd, Nat.reduceLT, Nat.reduceLeDiff, Nat.reduceMul, ↓reduceIte, reduceCtorEq]
    refine spec_FirstOverload_ (S := S) (by omega) (Rd.own rfl) (fun _ => ?_) (fun h1 => absurd h1 hS)
    simp only [not_true_eq_false, not_false_eq_true, decide_true, decide_false, Bool.not_true, Bool.not_false, false_implies, true_implies, and_true, true_and, Bool.false_eq_true, Bool.true_eq_false, implies_true, Bool.not_not, Classical.not_not, go_sem, Int.reduceToNat, List.take_nil, Nat.zero_mul, Nat.reduceEqDiff, Nat.reduceAdd, Nat.reduceLT, Nat.reduceLeDiff, Nat.reduceMul, ↓reduceIte, reduceCtorEq]
    refine ⟨fun h => absurd (by decide) h, fun _ => laws_alive_ ?_⟩
    simp only [not_true_eq_false, not_false_eq_true, decide_true, decide_false, Bool.not_true, Bool.not_false, false_implies, true_implies, and_true, true_and, Bool.false_eq_true, Bool.true_eq_false, implies_true, Bool.not_not, Classical.not_not, go_sem, Int.reduceToNat, List.take_nil, Nat.zero_mul, Nat.reduceEqDiff, Nat.reduceAdd, Nat.reduceLT, Nat.reduceLeDiff, Nat.reduceMul, ↓reduceIte, reduceCtorEq]
    exact Fin.plain rfl

theorem c_FnEdfExact (C : List Nat) (c : Nat) (hC : ∀ x ∈ C, x < 256) (_ : C.length * 1 ≤ 140737488351232) (hc : C.length ≤ c) : CallWp Try.prog n_laws_FnEdfExact [.sl 0 0 C.length c] [.ro (encByte.row C)] (fun x _ => x = .b true) := laws_FnEdfExact0 C hC c hc
end Go.Proofs.Ytgnlibnnpipbhaa
