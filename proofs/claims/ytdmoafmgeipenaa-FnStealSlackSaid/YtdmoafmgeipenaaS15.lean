import Derived.Test.YtdmoafmgeipenaaS14
import Derived.Test.YtdmoafmgeipenaaS7
namespace Go.Proofs.Ytdmoafmgeipenaa
open Go.Abs Go.Ds
set_option linter.unusedSimpArgs false
set_option linter.unusedVariables false
set_option maxRecDepth 20000
set_option maxHeartbeats 1000000
theorem spec_l3Missed_ {σ : List AB} {L : List Job} {fin : List Int} {j c : Nat} {x u : AV} (hl : L.length ≤ 1048576) (hf : fin.length = L.length) (hj : cellsOf σ j = some (encJob.row L)) (dx : x.data = true)
    (hu : (∃ m cf, u = .sl m 0 fin.length cf ∧ cellsOf σ m = some (encInt.row fin)) ∨ (L = [] ∧ u = .sn)) {K : AV → List AB → Prop}
    (hk : ∀ cap, (missedL L fin).length ≤ cap → K (.sl σ.length 0 (missedL L fin).length cap) (σ ++ [.rw ty_int (encInt.row (missedL L fin)) cap])) : CallWp Try.prog n_spec_l3Missed [.sl j 0 L.length c, .agg [x, u]] σ K := by
  have du : u.data = true := by
    rcases hu with ⟨m, cf, rfl, _⟩ | ⟨_, rfl⟩ <;> rfl
  refine callC_spec_l3Missed (by simp) fun hC hA => ?_
  have hjl := cells_lt hj
  have hb : Go.Abs.below σ.length x = true ∧ Go.Abs.below σ.length u = true := by
    simp only [List.all_cons, List.all_nil, Go.Abs.below1, Bool.and_eq_true, Bool.and_true] at hA
    exact hA.2
  simp only [c_spec_l3Missed, List.append_assoc, at_new, at_new0, set_new, set_new0, dx, du, not_true_eq_false, not_false_eq_true, decide_true, decide_false, Bool.not_true, Bool.not_false, false_implies, true_implies, and_true, true_and, Bool.false_eq_true, Bool.true_eq_false, implies_true, Bool.not_not, Classical.not_not, go_sem, Int.reduceToNat, List.take_nil, Nat.zero_mul, Nat.reduceEqDiff, Nat.reduceAdd, Nat.reduceLT, Nat.reduceLeDiff, Nat.reduceMul, ↓reduceIte, reduceCtorEq]
  refine loop_intro (fun i : Nat × Nat => ⟨[(0, .sl j 0 L.length c), (3, .p σ.length 0), (5, .sl (σ.length + 1) 0 (missUp L fin i.1).length i.2), (6, .i .i64 i.1)], σ ++ [.rw ty_impl_Schedule [x, u] 2, .rw ty_int (encInt.row (missUp L fin i.1)) i.2]⟩)
    (fun i => i.1 ≤ L.length ∧ (missUp L fin i.1).length ≤ i.2) (fun i => L.length - i.1) (0, 0) ⟨Nat.zero_le _, Nat.le_refl _⟩ ?_ ?_
  · show Wk σ.length 46 _ ⟨[(0, .sl j 0 L.length c), (3, .p σ.length 0), (5, .sl (σ.length + 1) 0 0 0), (6, .i .i64 0)], σ ++ [.rw ty_impl_Schedule [x, u] 2, .rw ty_int [] 0]⟩
    exact Wk.keep (by simp [look_cons])
  rintro ⟨k, cap⟩ hk2
  simp only at hk2
  have hle := missUp_le L fin k
  simp only [l0_spec_l3Missed, List.append_assoc, at_new, at_new0, set_new, set_new0, onC_old hj, lenJ, dx, du, not_true_eq_false, not_false_eq_true, decide_true, decide_false, Bool.not_true, Bool.not_false, false_implies, true_implies, and_true, true_and, Bool.false_eq_true, Bool.true_eq_false, implies_true, Bool.not_not, Classical.not_not, go_sem, Int.reduceToNat, List.take_nil, Nat.zero_mul, Nat.reduceEqDiff, Nat.reduceAdd, Nat.reduceLT, Nat.reduceLeDiff, Nat.reduceMul, ↓reduceIte, reduceCtorEq]
  refine ⟨fun hlt => ?_, fun hge => ?_⟩
  · rcases hu with ⟨m, cf, rfl, hm⟩ | ⟨rfl, _⟩
    · have hkf : k < fin.length := by omega
      have hm2 := cells_lt hm
      have hb2 : Go.Abs.below σ.length (.sl m 0 L.length cf) = true := by simpa [Go.Abs.below] using hm2
      have hst : (lateAt L fin k = true → missUp L fin (k + 1) = missUp L fin k ++ [(k : Int)]) ∧ (lateAt L fin k = false → missUp L fin (k + 1) = missUp L fin k) := by
        rw [missUp_succ]
        exact ⟨fun e => if_pos e, fun e => if_neg (by simp [e])⟩
      have hlr := late_row hlt hkf
      simp only [List.append_assoc, at_new, at_new0, set_new, set_new0, onC_old hj, onC_old hm, rdJ2 hlt, rdI hkf, lenI, lenJ, hf, not_true_eq_false, not_false_eq_true, decide_true, decide_false, Bool.not_true, Bool.not_false, false_implies, true_implies, and_true, true_and, Bool.false_eq_true, Bool.true_eq_false, implies_true, Bool.not_not, Classical.not_not, go_sem, Int.reduceToNat, List.take_nil, Nat.zero_mul, Nat.reduceEqDiff, Nat.reduceAdd, Nat.reduceLT, Nat.reduceLeDiff, Nat.reduceMul, ↓reduceIte, reduceCtorEq]
      cases hlate : lateAt L fin k with
      | true =>
        have hd := of_decide_eq_true (hlr.symm.trans hlate)
        have e1 := hst.1 hlate
        have e2 : (missUp L fin (k + 1)).length = (missUp L fin k).length + 1 := by rw [e1]; simp
        have e3 : List.take (missUp L fin k).length (encInt.row (missUp L fin k)) ++ [AV.i IntKind.i64 (k : Int)] = encInt.row (missUp L fin (k + 1)) := by
          rw [List.take_of_length_le (by rw [lenI]; omega), appI, e1]
        repeat' first
          | omega
          | (exfalso; omega)
          | refine fun (cap' : Nat) hcap => ⟨by omega, (k + 1, cap'), ⟨⟨by simp only; omega, by simp only [e2]; omega⟩, by simp only; omega⟩, ?_⟩
          | (simp only [e2, e3]; exact Wk.pickG hC (Nat.le_refl _) [0, 3] (hT := by simp [look_cons, Go.Abs.belowT, Go.Abs.below1, Go.Abs.below, Go.Abs.sees, Go.Abs.ren, Go.Abs.ren1, Go.Abs.renC, gR_new, gR_new0, gR_lt hjl]; omega) (hf := by simp only [Go.Abs.cellsIn, List.all_cons, List.all_nil, Enc.row_bel, hb.1, hb.2, hb2, Bool.and_self]))
          | refine ⟨?_, ?_⟩
          | intro _
      | false =>
        have hd := of_decide_eq_false (hlr.symm.trans hlate)
        have e1 := hst.2 hlate
        repeat' first
          | omega
          | (exfalso; omega)
          | refine ⟨by omega, (k + 1, cap), ⟨⟨by simp only; omega, by simp only [e1]; omega⟩, by simp only; omega⟩, ?_⟩
          | (simp only [e1]; exact Wk.keep (by simp [look_cons]))
          | refine ⟨?_, ?_⟩
          | intro _
    · simp at hlt
  · have ek : k = L.length := by omega
    subst ek
    change Abs.Fin _ _ (.sl (σ.length + 1) 0 (missedL L fin).length cap) _
    exact Fin.pickG hC (Nat.le_refl _) [1] (.sl σ.length 0 (missedL L fin).length cap) _ (hk cap hk2.2) (hf := by simp [Go.Abs.cellsIn, Enc.row_bel])
end Go.Proofs.Ytdmoafmgeipenaa
