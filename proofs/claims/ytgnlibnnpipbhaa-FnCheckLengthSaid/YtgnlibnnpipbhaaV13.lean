/- What a schedule to check is drawn from. -/
import Derived.Test.YtgnlibnnpipbhaaV1
import Derived.Test.YtgnlibnnpipbhaaS18
namespace Go.Proofs.Ytgnlibnnpipbhaa
open Go.Abs Go.Ds
set_option linter.unusedSimpArgs false
set_option linter.unusedVariables false
set_option maxRecDepth 20000
set_option maxHeartbeats 2000000

/-- The drawn schedule: none, or the first entries of a row. -/
def DrawnRun (z : AV) (τ : List AB) (R : List Int) : Prop := (z = .sn ∧ τ = [] ∧ R = []) ∨ ∃ (W : List Int) (k cr rr : Nat), z = .sl 3 0 k cr ∧ τ = [.rw ty_int (encInt.row W) rr] ∧ k ≤ W.length ∧ W.length ≤ 120 ∧ R = W.take k

theorem spec_DrawCheckSchedule0 (C : List Nat) (hC : ∀ x ∈ C, x < 256) (c : Nat) (hc : C.length ≤ c) : CallWp Try.prog n_spec_DrawCheckSchedule [.sl 0 0 C.length c] [.ro (encByte.row C)] (fun x σ' => ∃ (S : List Task) (L : List Job) (cap cap' : Nat) (z : AV) (τ : List AB) (R : List Int),
    x = .tup [.sl 1 0 S.length cap, .sl 2 0 L.length cap', z] ∧ σ' = [.ro (encByte.row C), .rw ty_impl_Task (encTask.row S) (cap * 3), .rw ty_impl_Job (encJob.row L) (cap' * 4)] ++ τ ∧ DrawnRun z τ R ∧ S.length ≤ 8 ∧ L.length ≤ 62) := by
  refine call_spec_DrawCheckSchedule (by simp) ?_
  simp only [c_spec_DrawCheckSchedule, go_sem, Int.reduceToNat, List.take_nil, Nat.zero_mul, Nat.reduceEqDiff, Nat.reduceAdd, Nat.reduceLT, Nat.reduceLeDiff, Nat.reduceMul, ↓reduceIte, reduceCtorEq]
  refine (spec_l20Open0 C c hc).mono ?_
  rintro x σ' _ ⟨rfl, rfl⟩
  simp only [go_sem, Int.reduceToNat, List.take_nil, Nat.zero_mul, Nat.reduceEqDiff, Nat.reduceAdd, Nat.reduceLT, Nat.reduceLeDiff, Nat.reduceMul, ↓reduceIte, reduceCtorEq]
  refine spec_l20Set_ (Rdr.take (τ := [])) (Code.take hC) (by omega) _ (by omega) fun S cap p1 h11 h12 hS8 hS _ => ?_
  simp only [go_sem, Int.reduceToNat, List.take_nil, Nat.zero_mul, Nat.reduceEqDiff, Nat.reduceAdd, Nat.reduceLT, Nat.reduceLeDiff, Nat.reduceMul, ↓reduceIte, reduceCtorEq]
  refine spec_SetValid_ (L := S) (by omega) (Rd.own rfl) ?_
  simp only [not_true_eq_false, not_false_eq_true, decide_true, decide_false, Bool.not_true, Bool.not_false, false_implies, true_implies, and_true, true_and, Bool.false_eq_true, Bool.true_eq_false, implies_true, Bool.not_not, Classical.not_not, go_sem, Int.reduceToNat, List.take_nil, Nat.zero_mul, Nat.reduceEqDiff, Nat.reduceAdd, Nat.reduceLT, Nat.reduceLeDiff, Nat.reduceMul, ↓reduceIte, reduceCtorEq]
  refine ⟨fun hv => ?_, fun hv => ?_⟩
  · exact Fin.pick [0, 2, 3, 4] (.tup [.sl 1 0 S.length cap, .sl 2 0 0 0, .sl 3 0 0 0]) [.ro (encByte.row C), .rw ty_impl_Task (encTask.row S) (cap * 3), .rw ty_impl_Job (encJob.row []) (0 * 4), .rw ty_int (encInt.row []) 0] ⟨S, [], cap, 0, _, [.rw ty_int (encInt.row []) 0], [], rfl, rfl, .inr ⟨[], 0, 0, 0, rfl, rfl, by simp, by simp, rfl⟩, hS8, by simp⟩
  refine spec_l20Jobs_ (Rdr.take (τ := [_])) (Code.take hC) (by omega) hv (Sl.own rfl (by decide)) _ (by omega) fun L cap' p2 h21 h22 hL62 hL => ?_
  simp only [go_sem, Int.reduceToNat, List.take_nil, Nat.zero_mul, Nat.reduceEqDiff, Nat.reduceAdd, Nat.reduceLT, Nat.reduceLeDiff, Nat.reduceMul, ↓reduceIte, reduceCtorEq]
  have hR := edfRun_length L
  refine spec_RunEdf_ (S := S) (L := L) (by omega) (by omega) (Rd.own rfl) (Rd.own rfl) (fun hno => ?_) (fun hyes => ?_)
  · simp only [not_true_eq_false, not_false_eq_true, decide_true, decide_false, Bool.not_true, Bool.not_false, false_implies, true_implies, and_true, true_and, Bool.false_eq_true, Bool.true_eq_false, implies_true, Bool.not_not, Classical.not_not, go_sem, Int.reduceToNat, List.take_nil, Nat.zero_mul, Nat.reduceEqDiff, Nat.reduceAdd, Nat.reduceLT, Nat.reduceLeDiff, Nat.reduceMul, ↓reduceIte, reduceCtorEq]
    refine seq_join (fun _ : Unit => ⟨[(6, .sl 2 0 S.length cap), (7, .sl 3 0 L.length cap'), (8, .sn)], [.ro (encByte.row C), .rw ty_spec_l20Rd [.sl 0 0 (C.take 2000).length c, .i .i64 p2] 2, .rw ty_impl_Task (encTask.row S) (cap * 3), .rw ty_impl_Job (encJob.row L) (cap' * 4)]⟩) (fun _ => True) ?_ fun _ _ => ?_
    · refine seq_join (fun _ : Unit => ⟨[(6, .sl 2 0 S.length cap), (7, .sl 3 0 L.length cap'), (8, .sn), (36, .b false)], [.ro (encByte.row C), .rw ty_spec_l20Rd [.sl 0 0 (C.take 2000).length c, .i .i64 p2] 2, .rw ty_impl_Task (encTask.row S) (cap * 3), .rw ty_impl_Job (encJob.row L) (cap' * 4)]⟩) (fun _ => True) ?_ fun _ _ => ?_
      · simp only [not_true_eq_false, not_false_eq_true, decide_true, decide_false, Bool.not_true, Bool.not_false, false_implies, true_implies, and_true, true_and, Bool.false_eq_true, Bool.true_eq_false, implies_true, Bool.not_not, Classical.not_not, go_sem, Int.reduceToNat, List.take_nil, Nat.zero_mul, Nat.reduceEqDiff, Nat.reduceAdd, Nat.reduceLT, Nat.reduceLeDiff, Nat.reduceMul, ↓reduceIte, reduceCtorEq]
        exact ⟨fun h => absurd h (by decide), fun _ => kJ_intro () trivial (Wk.pick [0, 1, 2, 3])⟩
      · simp only [not_true_eq_false, not_false_eq_true, decide_true, decide_false, Bool.not_true, Bool.not_false, false_implies, true_implies, and_true, true_and, Bool.false_eq_true, Bool.true_eq_false, implies_true, Bool.not_not, Classical.not_not, go_sem, Int.reduceToNat, List.take_nil, Nat.zero_mul, Nat.reduceEqDiff, Nat.reduceAdd, Nat.reduceLT, Nat.reduceLeDiff, Nat.reduceMul, ↓reduceIte, reduceCtorEq]
        exact kJ_intro () trivial (Wk.pick [0, 1, 2, 3])
    · simp only [not_true_eq_false, not_false_eq_true, decide_true, decide_false, Bool.not_true, Bool.not_false, false_implies, true_implies, and_true, true_and, Bool.false_eq_true, Bool.true_eq_false, implies_true, Bool.not_not, Classical.not_not, go_sem, Int.reduceToNat, List.take_nil, Nat.zero_mul, Nat.reduceEqDiff, Nat.reduceAdd, Nat.reduceLT, Nat.reduceLeDiff, Nat.reduceMul, ↓reduceIte, reduceCtorEq]
      exact Fin.pick [0, 2, 3] (.tup [.sl 1 0 S.length cap, .sl 2 0 L.length cap', .sn]) [.ro (encByte.row C), .rw ty_impl_Task (encTask.row S) (cap * 3), .rw ty_impl_Job (encJob.row L) (cap' * 4)] ⟨S, L, cap, cap', .sn, [], [], rfl, rfl, .inl ⟨rfl, rfl, rfl⟩, hS8, hL62⟩
  · rintro x τ (⟨hno, _⟩ | ⟨_, d1, d2, ⟨hne, rfl, rfl⟩ | ⟨hne, rfl, rfl⟩⟩)
    · exact absurd trivial hno
    all_goals
      simp only [not_true_eq_false, not_false_eq_true, decide_true, decide_false, Bool.not_true, Bool.not_false, false_implies, true_implies, and_true, true_and, Bool.false_eq_true, Bool.true_eq_false, implies_true, Bool.not_not, Classical.not_not, go_sem, Int.reduceToNat, List.take_nil, Nat.zero_mul, Nat.reduceEqDiff, Nat.reduceAdd, Nat.reduceLT, Nat.reduceLeDiff, Nat.reduceMul, ↓reduceIte, reduceCtorEq]
      refine seq_join (fun i : List Int × Nat × Int => ⟨[(6, .sl 2 0 S.length cap), (7, .sl 3 0 L.length cap'), (8, .sl 4 0 i.2.1 d1)], [.ro (encByte.row C), .rw ty_spec_l20Rd [.sl 0 0 (C.take 2000).length c, .i .i64 i.2.2] 2, .rw ty_impl_Task (encTask.row S) (cap * 3), .rw ty_impl_Job (encJob.row L) (cap' * 4), .rw ty_int (encInt.row i.1) d1]⟩)
        (fun i => i.1.length = 120 ∧ i.2.1 ≤ 120) ?_ ?_
      · refine seq_join (fun i : Bool × Int => ⟨[(5, .p 1 0), (6, .sl 2 0 S.length cap), (7, .sl 3 0 L.length cap'), (8, .sl 4 0 120 d1), (36, .b i.1)], [.ro (encByte.row C), .rw ty_spec_l20Rd [.sl 0 0 (C.take 2000).length c, .i .i64 i.2] 2, .rw ty_impl_Task (encTask.row S) (cap * 3), .rw ty_impl_Job (encJob.row L) (cap' * 4), .rw ty_int (encInt.row (edfRun L)) d1]⟩)
          (fun i => p2 ≤ i.2 ∧ i.2 ≤ p2 + 1) ?_ ?_
        · simp only [not_true_eq_false, not_false_eq_true, decide_true, decide_false, Bool.not_true, Bool.not_false, false_implies, true_implies, and_true, true_and, Bool.false_eq_true, Bool.true_eq_false, implies_true, Bool.not_not, Classical.not_not, go_sem, Int.reduceToNat, List.take_nil, Nat.zero_mul, Nat.reduceEqDiff, Nat.reduceAdd, Nat.reduceLT, Nat.reduceLeDiff, Nat.reduceMul, ↓reduceIte, reduceCtorEq]
          refine ⟨fun _ => ?_, fun h => absurd (by decide) h⟩
          refine spec_l20Rd_pick_ Rdr.take (Code.take hC) (by omega) _ (by omega) fun r g1 g2 _ => ?_
          simp only [not_true_eq_false, not_false_eq_true, decide_true, decide_false, Bool.not_true, Bool.not_false, false_implies, true_implies, and_true, true_and, Bool.false_eq_true, Bool.true_eq_false, implies_true, Bool.not_not, Classical.not_not, go_sem, Int.reduceToNat, List.take_nil, Nat.zero_mul, Nat.reduceEqDiff, Nat.reduceAdd, Nat.reduceLT, Nat.reduceLeDiff, Nat.reduceMul, ↓reduceIte, reduceCtorEq]
          exact kJ_intro (decide (r = 0), p2 + 1) (by simp only; omega) (Wk.pick [0, 1, 2, 3, 4])
        · rintro ⟨b, p3⟩ ⟨hp1, hp2⟩
          simp only at hp1 hp2
          simp only [not_true_eq_false, not_false_eq_true, decide_true, decide_false, Bool.not_true, Bool.not_false, false_implies, true_implies, and_true, true_and, Bool.false_eq_true, Bool.true_eq_false, implies_true, Bool.not_not, Classical.not_not, go_sem, Int.reduceToNat, List.take_nil, Nat.zero_mul, Nat.reduceEqDiff, Nat.reduceAdd, Nat.reduceLT, Nat.reduceLeDiff, Nat.reduceMul, ↓reduceIte, reduceCtorEq]
          refine bc_of (fun hb => ?_) (fun hb => ?_)
          · refine spec_l20Rd_pick_ Rdr.take (Code.take hC) (by omega) _ (by omega) fun k g1 g2 _ => ?_
            have g2 := g2 (by omega)
            obtain ⟨k, rfl⟩ := Int.eq_ofNat_of_zero_le g1
            have hk : k < (edfRun L).length := by omega
            simp only [not_true_eq_false, not_false_eq_true, decide_true, decide_false, Bool.not_true, Bool.not_false, false_implies, true_implies, and_true, true_and, Bool.false_eq_true, Bool.true_eq_false, implies_true, Bool.not_not, Classical.not_not, go_sem, Int.reduceToNat, List.take_nil, Nat.zero_mul, Nat.reduceEqDiff, Nat.reduceAdd, Nat.reduceLT, Nat.reduceLeDiff, Nat.reduceMul, ↓reduceIte, reduceCtorEq]
            refine spec_l20Rd_pick_ Rdr.take (Code.take hC) (by omega) _ (by omega) fun sw s1 s2 _ => ?_
            have hset : ∀ v : Int, ((edfRun L).set k v).length = 120 := fun v => by rw [List.length_set]; exact hR
            simp only [Int.toNat_natCast, rdI hk, splI hk, lenI, hR, not_true_eq_false, not_false_eq_true, decide_true, decide_false, Bool.not_true, Bool.not_false, false_implies, true_implies, and_true, true_and, Bool.false_eq_true, Bool.true_eq_false, implies_true, Bool.not_not, Classical.not_not, go_sem, Int.reduceToNat, List.take_nil, Nat.zero_mul, Nat.reduceEqDiff, Nat.reduceAdd, Nat.reduceLT, Nat.reduceLeDiff, Nat.reduceMul, ↓reduceIte, reduceCtorEq]
            refine ⟨fun e0 => ?_, fun e0 => ⟨fun e1 => ?_, fun e1 => ⟨fun e2 => ?_, fun e2 => ?_⟩⟩⟩
            · refine ⟨by omega, spec_l20Rd_pick_ Rdr.take (Code.take hC) (by omega) _ (by omega) fun v v1 v2 _ => ?_⟩
              have v2 := v2 (by omega)
              simp only [Int.toNat_natCast, splI hk, lenI, hR, not_true_eq_false, not_false_eq_true, decide_true, decide_false, Bool.not_true, Bool.not_false, false_implies, true_implies, and_true, true_and, Bool.false_eq_true, Bool.true_eq_false, implies_true, Bool.not_not, Classical.not_not, go_sem, Int.reduceToNat, List.take_nil, Nat.zero_mul, Nat.reduceEqDiff, Nat.reduceAdd, Nat.reduceLT, Nat.reduceLeDiff, Nat.reduceMul, ↓reduceIte, reduceCtorEq]
              repeat' first
                | omega
                | exact kJ_intro ((edfRun L).set k (v - 1), 120, p3 + 1 + 1 + 1) ⟨hset _, Nat.le_refl _⟩ (Wk.pick [0, 1, 2, 3, 4])
                | refine ⟨?_, ?_⟩
            · exact ⟨.inr (by omega), kJ_intro (edfRun L, k, p3 + 1 + 1) ⟨hR, by simp only; omega⟩ (Wk.pick [0, 1, 2, 3, 4])⟩
            · refine spec_l20Rd_pick_ Rdr.take (Code.take hC) (by omega) _ (by omega) fun j j1 j2 _ => ?_
              have j2 := j2 (by omega)
              obtain ⟨j, rfl⟩ := Int.eq_ofNat_of_zero_le j1
              have hj : j < (edfRun L).length := by omega
              have hset2 : ∀ v w : Int, (((edfRun L).set k v).set j w).length = 120 := fun v w => by rw [List.length_set, List.length_set]; exact hR
              have hj2 : ∀ v : Int, j < ((edfRun L).set k v).length := fun v => by rw [hset]; omega
              simp only [Int.toNat_natCast, rdI hk, rdI hj, splI hk, splI (hj2 _), lenI, hR, List.length_set, not_true_eq_false, not_false_eq_true, decide_true, decide_false, Bool.not_true, Bool.not_false, false_implies, true_implies, and_true, true_and, Bool.false_eq_true, Bool.true_eq_false, implies_true, Bool.not_not, Classical.not_not, go_sem, Int.reduceToNat, List.take_nil, Nat.zero_mul, Nat.reduceEqDiff, Nat.reduceAdd, Nat.reduceLT, Nat.reduceLeDiff, Nat.reduceMul, ↓reduceIte, reduceCtorEq]
              repeat' first
                | omega
                | exact kJ_intro (((edfRun L).set k (edfRun L)[j]).set j (edfRun L)[k], 120, p3 + 1 + 1 + 1) ⟨hset2 _ _, Nat.le_refl _⟩ (Wk.pick [0, 1, 2, 3, 4])
                | refine ⟨?_, ?_⟩
            · repeat' first
                | omega
                | exact kJ_intro ((edfRun L).set k (-1), 120, p3 + 1 + 1) ⟨hset _, Nat.le_refl _⟩ (Wk.pick [0, 1, 2, 3, 4])
                | refine ⟨?_, ?_⟩
          · exact kJ_intro (edfRun L, 120, p3) ⟨hR, Nat.le_refl _⟩ (Wk.pick [0, 1, 2, 3, 4])
      · rintro ⟨W, k, p4⟩ ⟨hW, hk⟩
        simp only at hW hk
        simp only [not_true_eq_false, not_false_eq_true, decide_true, decide_false, Bool.not_true, Bool.not_false, false_implies, true_implies, and_true, true_and, Bool.false_eq_true, Bool.true_eq_false, implies_true, Bool.not_not, Classical.not_not, go_sem, Int.reduceToNat, List.take_nil, Nat.zero_mul, Nat.reduceEqDiff, Nat.reduceAdd, Nat.reduceLT, Nat.reduceLeDiff, Nat.reduceMul, ↓reduceIte, reduceCtorEq]
        exact Fin.pick [0, 2, 3, 4] (.tup [.sl 1 0 S.length cap, .sl 2 0 L.length cap', .sl 3 0 k d1]) [.ro (encByte.row C), .rw ty_impl_Task (encTask.row S) (cap * 3), .rw ty_impl_Job (encJob.row L) (cap' * 4), .rw ty_int (encInt.row W) d1] ⟨S, L, cap, cap', _, [.rw ty_int (encInt.row W) d1], W.take k, rfl, rfl, .inr ⟨W, k, d1, d1, rfl, rfl, by omega, by omega, rfl⟩, hS8, hL62⟩
end Go.Proofs.Ytgnlibnnpipbhaa
