import Derived.Test.YtgnlibnnpipbhaaS94
import Derived.Test.YtgnlibnnpipbhaaS95
import Derived.Test.YtgnlibnnpipbhaaS20
import Derived.Test.YtgnlibnnpipbhaaD2
import Derived.Test.YtgnlibnnpipbhaaD4
import Derived.Test.YtgnlibnnpipbhaaE7
namespace Go.Proofs.Ytgnlibnnpipbhaa
open Go.Abs Go.Ds
set_option linter.unusedSimpArgs false
set_option linter.unusedVariables false
set_option maxRecDepth 20000
set_option maxHeartbeats 2000000
theorem spec_DrawDeadlineMonotonic0 (C : List Nat) (hC : ∀ x ∈ C, x < 256) (c : Nat) (hc : C.length ≤ c) : CallWp Try.prog n_spec_DrawDeadlineMonotonic [.sl 0 0 C.length c] [.ro (encByte.row C)] (fun x σ' => ∃ (S : List Task) (cap : Nat),
    x = .sl 1 0 S.length cap ∧ σ' = [.ro (encByte.row C), .rw ty_impl_Task (encTask.row S) (cap * 3)] ∧ S.length ≤ 8) := by
  refine call_spec_DrawDeadlineMonotonic (by simp) ?_
  simp only [c_spec_DrawDeadlineMonotonic, go_sem, Int.reduceToNat, List.take_nil, Nat.zero_mul, Nat.reduceEqDiff, Nat.reduceAdd, Nat.reduceLT, Nat.reduceLeDiff, Nat.reduceMul, ↓reduceIte, reduceCtorEq]
  refine (spec_l20Open0 C c hc).mono ?_
  rintro x σ' _ ⟨rfl, rfl⟩
  simp only [go_sem, Int.reduceToNat, List.take_nil, Nat.zero_mul, Nat.reduceEqDiff, Nat.reduceAdd, Nat.reduceLT, Nat.reduceLeDiff, Nat.reduceMul, ↓reduceIte, reduceCtorEq]
  refine spec_l20Set_ (Rdr.take (τ := [])) (Code.take hC) (by omega) _ (by omega) fun S cap p1 h11 h12 hS8 hS _ => ?_
  simp only [go_sem, Int.reduceToNat, List.take_nil, Nat.zero_mul, Nat.reduceEqDiff, Nat.reduceAdd, Nat.reduceLT, Nat.reduceLeDiff, Nat.reduceMul, ↓reduceIte, reduceCtorEq]
  exact Fin.pick [0, 2] (.sl 1 0 S.length cap) _ ⟨S, cap, rfl, rfl, hS8⟩
theorem rdLen {α : Type} {E : Enc α} {σ : List AB} {n len cap : Nat} {L : List α} (h : cellsOf σ n = some (E.row L)) (hl : L.length = len) : Rd E σ (.sl n 0 len cap) L := by subst hl; exact Rd.own h
theorem fpOk_pass {S : List Task} {O : List Int} (hO : ordOk S O) : fpOk S O ↔ ∀ m (h : m < O.length), passT S O[m] (O.take m) := by
  have hz := zeros_ok hO.1
  constructor
  · intro h m hm
    have hr := hO.2.2.1 _ (List.getElem_mem hm)
    have := h.pos _ hr.1 hr.2
    obtain ⟨q, hq, e1, e2⟩ := resps_get (J := List.replicate S.length 0) hO hr.1 hr.2
    have : q = m := by
      refine Classical.byContradiction fun hne => ?_
      rcases Nat.lt_or_gt_of_ne hne with h | h
      · exact (List.pairwise_iff_getElem.1 hO.2.2.2) q m hq hm h e1
      · exact (List.pairwise_iff_getElem.1 hO.2.2.2) m q hm hq h e1.symm
    subst this
    unfold passT
    rwa [← e2]
  · intro h
    refine ⟨hO, fun hm => ?_⟩
    obtain ⟨k, hk, e⟩ := List.getElem_of_mem hm
    have hl := resps_length S (List.replicate S.length 0) O O.length
    obtain ⟨q, hq, e1, e2⟩ := resps_get (J := List.replicate S.length 0) hO (i := (k : Int)) (by omega) (by omega)
    have h1 := h q hq
    unfold passT at h1
    rw [e1, ← e2, gI_nat hk, e] at h1
    omega
theorem audB_iff {S : List Task} {O : List Int} (h : IsDM S O) : audB S ↔ fpOk S O := by
  have hi := idxs_ok S.length
  rw [fpOk_pass h.ord, dm_aud (L := idxs S.length) h.ord (fun x => by
    rw [h.2.2]
    refine ⟨hi.2 x, fun hx => ?_⟩
    unfold idxs
    rw [List.mem_map]
    exact ⟨x.toNat, by rw [List.mem_range]; omega, by omega⟩) h.le, ← aud_iff h.1 S.length (idxs S.length) (idxs_length _) hi.1 hi.2]
  exact ⟨fun h => h.2, fun g => ⟨h.1, g⟩⟩
theorem laws_FnMonotonic0 (C : List Nat) (hC : ∀ x ∈ C, x < 256) (c : Nat) (hc : C.length ≤ c) : CallWp Try.prog n_laws_FnMonotonic [.sl 0 0 C.length c] [.ro (encByte.row C)] (fun x _ => x = .b true) := by
  refine call_laws_FnMonotonic (by simp) ?_
  simp only [c_laws_FnMonotonic, not_true_eq_false, not_false_eq_true, decide_true, decide_false, Bool.not_true, Bool.not_false, false_implies, true_implies, and_true, true_and, Bool.false_eq_true, Bool.true_eq_false, implies_true, Bool.not_not, Classical.not_not, go_sem, Int.reduceToNat, List.take_nil, Nat.zero_mul, Nat.reduceEqDiff, Nat.reduceAdd, Nat.reduceLT, Nat.reduceLeDiff, Nat.reduceMul, ↓reduceIte, reduceCtorEq]
  refine ⟨fun h => Fin.plain rfl, fun h => ?_⟩
  refine (spec_DrawDeadlineMonotonic0 C hC c hc).mono ?_
  rintro x σ' _ ⟨S, cap, rfl, rfl, hS8⟩
  simp only [not_true_eq_false, not_false_eq_true, decide_true, decide_false, Bool.not_true, Bool.not_false, false_implies, true_implies, and_true, true_and, Bool.false_eq_true, Bool.true_eq_false, implies_true, Bool.not_not, Classical.not_not, go_sem, Int.reduceToNat, List.take_nil, Nat.zero_mul, Nat.reduceEqDiff, Nat.reduceAdd, Nat.reduceLT, Nat.reduceLeDiff, Nat.reduceMul, ↓reduceIte, reduceCtorEq]
  refine impl_DM_ (S := S) (by omega) (Rd.own rfl) (fun hno => ?_) fun O c1 c2 hO => ?_
  · simp only [not_true_eq_false, not_false_eq_true, decide_true, decide_false, Bool.not_true, Bool.not_false, false_implies, true_implies, and_true, true_and, Bool.false_eq_true, Bool.true_eq_false, implies_true, Bool.not_not, Classical.not_not, go_sem, Int.reduceToNat, List.take_nil, Nat.zero_mul, Nat.reduceEqDiff, Nat.reduceAdd, Nat.reduceLT, Nat.reduceLeDiff, Nat.reduceMul, ↓reduceIte, reduceCtorEq]
    refine spec_DM_ (S := S) (by omega) (Rd.own rfl) fun L d1 d2 h1 h2 => ?_
    obtain rfl := h1 hno
    simp only [not_true_eq_false, not_false_eq_true, decide_true, decide_false, Bool.not_true, Bool.not_false, false_implies, true_implies, and_true, true_and, Bool.false_eq_true, Bool.true_eq_false, implies_true, Bool.not_not, Classical.not_not, go_sem, Int.reduceToNat, List.take_nil, Nat.zero_mul, Nat.reduceEqDiff, Nat.reduceAdd, Nat.reduceLT, Nat.reduceLeDiff, Nat.reduceMul, ↓reduceIte, reduceCtorEq]
    refine laws_sameInts_ (L := []) (M := []) (by simp) (.inr ⟨rfl, rfl, by simp⟩) (Rd.own rfl) ?_
    simp only [not_true_eq_false, not_false_eq_true, decide_true, decide_false, Bool.not_true, Bool.not_false, false_implies, true_implies, and_true, true_and, Bool.false_eq_true, Bool.true_eq_false, implies_true, Bool.not_not, Classical.not_not, go_sem, Int.reduceToNat, List.take_nil, Nat.zero_mul, Nat.reduceEqDiff, Nat.reduceAdd, Nat.reduceLT, Nat.reduceLeDiff, Nat.reduceMul, ↓reduceIte, reduceCtorEq]
    refine spec_SetValid_ (L := S) (by omega) (Rd.own rfl) ?_
    simp only [hno, not_true_eq_false, not_false_eq_true, decide_true, decide_false, Bool.not_true, Bool.not_false, false_implies, true_implies, and_true, true_and, Bool.false_eq_true, Bool.true_eq_false, implies_true, Bool.not_not, Classical.not_not, go_sem, Int.reduceToNat, List.take_nil, Nat.zero_mul, Nat.reduceEqDiff, Nat.reduceAdd, Nat.reduceLT, Nat.reduceLeDiff, Nat.reduceMul, ↓reduceIte, reduceCtorEq]
    refine laws_alive_ ?_
    simp only [not_true_eq_false, not_false_eq_true, decide_true, decide_false, Bool.not_true, Bool.not_false, false_implies, true_implies, and_true, true_and, Bool.false_eq_true, Bool.true_eq_false, implies_true, Bool.not_not, Classical.not_not, go_sem, Int.reduceToNat, List.take_nil, Nat.zero_mul, Nat.reduceEqDiff, Nat.reduceAdd, Nat.reduceLT, Nat.reduceLeDiff, Nat.reduceMul, ↓reduceIte, reduceCtorEq]
    exact Fin.plain rfl
  · simp only [not_true_eq_false, not_false_eq_true, decide_true, decide_false, Bool.not_true, Bool.not_false, false_implies, true_implies, and_true, true_and, Bool.false_eq_true, Bool.true_eq_false, implies_true, Bool.not_not, Classical.not_not, go_sem, Int.reduceToNat, List.take_nil, Nat.zero_mul, Nat.reduceEqDiff, Nat.reduceAdd, Nat.reduceLT, Nat.reduceLeDiff, Nat.reduceMul, ↓reduceIte, reduceCtorEq]
    refine spec_DM_ (S := S) (by omega) (Rd.own rfl) fun L d1 d2 h1 h2 => ?_
    have hS := hO.1
    have hOL := hO.ord.2.1
    obtain rfl := (h2 hS).eq hO
    simp only [not_true_eq_false, not_false_eq_true, decide_true, decide_false, Bool.not_true, Bool.not_false, false_implies, true_implies, and_true, true_and, Bool.false_eq_true, Bool.true_eq_false, implies_true, Bool.not_not, Classical.not_not, go_sem, Int.reduceToNat, List.take_nil, Nat.zero_mul, Nat.reduceEqDiff, Nat.reduceAdd, Nat.reduceLT, Nat.reduceLeDiff, Nat.reduceMul, ↓reduceIte, reduceCtorEq]
    refine laws_sameInts_ (L := L) (M := L) (by omega) (rdLen rfl hOL) (Rd.own rfl) ?_
    simp only [not_true_eq_false, not_false_eq_true, decide_true, decide_false, Bool.not_true, Bool.not_false, false_implies, true_implies, and_true, true_and, Bool.false_eq_true, Bool.true_eq_false, implies_true, Bool.not_not, Classical.not_not, go_sem, Int.reduceToNat, List.take_nil, Nat.zero_mul, Nat.reduceEqDiff, Nat.reduceAdd, Nat.reduceLT, Nat.reduceLeDiff, Nat.reduceMul, ↓reduceIte, reduceCtorEq]
    refine spec_SetValid_ (L := S) (by omega) (Rd.own rfl) ?_
    simp only [hS, not_true_eq_false, not_false_eq_true, decide_true, decide_false, Bool.not_true, Bool.not_false, false_implies, true_implies, and_true, true_and, Bool.false_eq_true, Bool.true_eq_false, implies_true, Bool.not_not, Classical.not_not, go_sem, Int.reduceToNat, List.take_nil, Nat.zero_mul, Nat.reduceEqDiff, Nat.reduceAdd, Nat.reduceLT, Nat.reduceLeDiff, Nat.reduceMul, ↓reduceIte, reduceCtorEq]
    refine loop_intro (fun i : Nat => ⟨[(3, .sl 1 0 S.length cap), (4, .sl 2 0 S.length c1), (5, .i .i64 i)], [.ro (encByte.row C), .rw ty_impl_Task (encTask.row S) (cap * 3), .rw ty_int (encInt.row L) c2]⟩)
      (fun i => 1 ≤ i ∧ i ≤ S.length + 1) (fun i => S.length + 1 - i) 1 ⟨Nat.le_refl _, by omega⟩ (Wk.pick [0, 1, 2]) ?_
    rintro i ⟨i1, i2⟩
    simp only [l0_laws_FnMonotonic, not_true_eq_false, not_false_eq_true, decide_true, decide_false, Bool.not_true, Bool.not_false, false_implies, true_implies, and_true, true_and, Bool.false_eq_true, Bool.true_eq_false, implies_true, Bool.not_not, Classical.not_not, go_sem, Int.reduceToNat, List.take_nil, Nat.zero_mul, Nat.reduceEqDiff, Nat.reduceAdd, Nat.reduceLT, Nat.reduceLeDiff, Nat.reduceMul, ↓reduceIte, reduceCtorEq]
    refine ⟨fun hlt => ?_, fun hge => ?_⟩
    · have ei : ((i : Int) - 1).toNat = i - 1 := by omega
      have g1 : i - 1 < L.length := by omega
      have g2 : i < L.length := by omega
      have r1 := hO.ord.2.2.1 _ (List.getElem_mem g1)
      have r2 := hO.ord.2.2.1 _ (List.getElem_mem g2)
      have t1 : (L[i - 1]).toNat < S.length := by omega
      have t2 : (L[i]).toNat < S.length := by omega
      have hle := (List.pairwise_iff_getElem.1 hO.le) (i - 1) i g1 g2 (by omega)
      rw [gT_eq t1, gT_eq t2] at hle
      simp only [ei, rdI g1, rdI g2, rdT1 t1, rdT1 t2, lenT, lenI, not_true_eq_false, not_false_eq_true, decide_true, decide_false, Bool.not_true, Bool.not_false, false_implies, true_implies, and_true, true_and, Bool.false_eq_true, Bool.true_eq_false, implies_true, Bool.not_not, Classical.not_not, go_sem, Int.reduceToNat, List.take_nil, Nat.zero_mul, Nat.reduceEqDiff, Nat.reduceAdd, Nat.reduceLT, Nat.reduceLeDiff, Nat.reduceMul, ↓reduceIte, reduceCtorEq]
      refine ⟨by omega, by omega, by omega, by omega, by omega, by omega, by omega, by omega, by omega, fun hlt2 => absurd hlt2 (by omega), fun _ => ⟨by omega, i + 1, by omega, Wk.pick [0, 1, 2]⟩⟩
    · refine impl_AssignPriorities_ (S := S) (by omega) (Rd.own rfl) (fun hno => ?_) fun A al ac acc hyes => ?_
      · simp only [not_true_eq_false, not_false_eq_true, decide_true, decide_false, Bool.not_true, Bool.not_false, false_implies, true_implies, and_true, true_and, Bool.false_eq_true, Bool.true_eq_false, implies_true, Bool.not_not, Classical.not_not, go_sem, Int.reduceToNat, List.take_nil, Nat.zero_mul, Nat.reduceEqDiff, Nat.reduceAdd, Nat.reduceLT, Nat.reduceLeDiff, Nat.reduceMul, ↓reduceIte, reduceCtorEq]
        refine impl_OrderValid_ (S := S) (O := L) (by omega) (by omega) (Rd.own rfl) (rdLen rfl hOL) ?_
        simp only [hO.ord, not_true_eq_false, not_false_eq_true, decide_true, decide_false, Bool.not_true, Bool.not_false, false_implies, true_implies, and_true, true_and, Bool.false_eq_true, Bool.true_eq_false, implies_true, Bool.not_not, Classical.not_not, go_sem, Int.reduceToNat, List.take_nil, Nat.zero_mul, Nat.reduceEqDiff, Nat.reduceAdd, Nat.reduceLT, Nat.reduceLeDiff, Nat.reduceMul, ↓reduceIte, reduceCtorEq]
        refine impl_FixedFeasible_ (S := S) (O := L) (by omega) (by omega) (Rd.own rfl) (rdLen rfl hOL) ?_
        have hf : ¬ fpOk S L := fun h => hno ((audB_iff hO).2 h)
        simp only [hf, not_true_eq_false, not_false_eq_true, decide_true, decide_false, Bool.not_true, Bool.not_false, false_implies, true_implies, and_true, true_and, Bool.false_eq_true, Bool.true_eq_false, implies_true, Bool.not_not, Classical.not_not, go_sem, Int.reduceToNat, List.take_nil, Nat.zero_mul, Nat.reduceEqDiff, Nat.reduceAdd, Nat.reduceLT, Nat.reduceLeDiff, Nat.reduceMul, ↓reduceIte, reduceCtorEq]
        exact Fin.plain rfl
      · simp only [not_true_eq_false, not_false_eq_true, decide_true, decide_false, Bool.not_true, Bool.not_false, false_implies, true_implies, and_true, true_and, Bool.false_eq_true, Bool.true_eq_false, implies_true, Bool.not_not, Classical.not_not, go_sem, Int.reduceToNat, List.take_nil, Nat.zero_mul, Nat.reduceEqDiff, Nat.reduceAdd, Nat.reduceLT, Nat.reduceLeDiff, Nat.reduceMul, ↓reduceIte, reduceCtorEq]
        refine impl_OrderValid_ (S := S) (O := L) (by omega) (by omega) (Rd.own rfl) (rdLen rfl hOL) ?_
        simp only [hO.ord, not_true_eq_false, not_false_eq_true, decide_true, decide_false, Bool.not_true, Bool.not_false, false_implies, true_implies, and_true, true_and, Bool.false_eq_true, Bool.true_eq_false, implies_true, Bool.not_not, Classical.not_not, go_sem, Int.reduceToNat, List.take_nil, Nat.zero_mul, Nat.reduceEqDiff, Nat.reduceAdd, Nat.reduceLT, Nat.reduceLeDiff, Nat.reduceMul, ↓reduceIte, reduceCtorEq]
        refine impl_FixedFeasible_ (S := S) (O := L) (by omega) (by omega) (Rd.own rfl) (rdLen rfl hOL) ?_
        have hf : fpOk S L := (audB_iff hO).1 hyes
        simp only [hf, not_true_eq_false, not_false_eq_true, decide_true, decide_false, Bool.not_true, Bool.not_false, false_implies, true_implies, and_true, true_and, Bool.false_eq_true, Bool.true_eq_false, implies_true, Bool.not_not, Classical.not_not, go_sem, Int.reduceToNat, List.take_nil, Nat.zero_mul, Nat.reduceEqDiff, Nat.reduceAdd, Nat.reduceLT, Nat.reduceLeDiff, Nat.reduceMul, ↓reduceIte, reduceCtorEq]
        exact Fin.plain rfl
theorem c_FnMonotonic (C : List Nat) (c : Nat) (hC : ∀ x ∈ C, x < 256) (_ : C.length * 1 ≤ 140737488351232) (hc : C.length ≤ c) :
    CallWp Try.prog n_laws_FnMonotonic [.sl 0 0 C.length c] [.ro (encByte.row C)] (fun x _ => x = .b true) := laws_FnMonotonic0 C hC c hc
end Go.Proofs.Ytgnlibnnpipbhaa
