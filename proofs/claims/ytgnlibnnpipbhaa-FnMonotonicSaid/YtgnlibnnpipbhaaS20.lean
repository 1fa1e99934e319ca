import Derived.Test.YtgnlibnnpipbhaaE8
import Derived.Test.YtgnlibnnpipbhaaMM
namespace Go.Proofs.Ytgnlibnnpipbhaa
open Go.Abs Go.Ds
set_option linter.unusedSimpArgs false
set_option linter.unusedVariables false
set_option maxRecDepth 20000
set_option maxHeartbeats 1000000
theorem slices_Contains_int_ {L : List Int} (n : Int) (hs : L.length ≤ 1099511627776) {v : AV} {σ : List AB} (h : Rd encInt σ v L) {K : AV → List AB → Prop} (hk : K (.b (decide (n ∈ L))) σ) : CallWp Try.prog n_slices_Contains_int [v, .i .i64 n] σ K := by
  refine callC_slices_Contains_int (by simp) fun hC hA => ?_
  simp only [c_slices_Contains_int, h.data, not_true_eq_false, not_false_eq_true, decide_true, decide_false, Bool.not_true, Bool.not_false, false_implies, true_implies, and_true, true_and, Bool.false_eq_true, Bool.true_eq_false, implies_true, Bool.not_not, Classical.not_not, go_sem, Int.reduceToNat, List.take_nil, Nat.zero_mul, Nat.reduceEqDiff, Nat.reduceAdd, Nat.reduceLT, Nat.reduceLeDiff, Nat.reduceMul, ↓reduceIte, reduceCtorEq]
  refine slices_Index_int_ n hs h ?_
  simp only [not_true_eq_false, not_false_eq_true, decide_true, decide_false, Bool.not_true, Bool.not_false, false_implies, true_implies, and_true, true_and, Bool.false_eq_true, Bool.true_eq_false, implies_true, Bool.not_not, Classical.not_not, go_sem, Int.reduceToNat, List.take_nil, Nat.zero_mul, Nat.reduceEqDiff, Nat.reduceAdd, Nat.reduceLT, Nat.reduceLeDiff, Nat.reduceMul, ↓reduceIte, reduceCtorEq]
  rw [show decide (0 ≤ idxF (fun y => decide (y = n)) L) = decide (n ∈ L) from decide_eq_decide.2 idxF_mem]
  exact Fin.plain hk
def fpOk (S : List Task) (O : List Int) : Prop := ordOk S O ∧ (-1 : Int) ∉ resps S (List.replicate S.length 0) O O.length
noncomputable instance (S : List Task) (O : List Int) : Decidable (fpOk S O) := Classical.propDecidable _
theorem fpOk.pos {S : List Task} {O : List Int} (h : fpOk S O) : ∀ k, 0 ≤ k → k < (S.length : Int) → 0 ≤ gI (resps S (List.replicate S.length 0) O O.length) k := by
  intro k h0 h1
  obtain ⟨m, hm, e1, e2⟩ := resps_get (J := List.replicate S.length 0) h.1 h0 h1
  have hin : Inst S (List.replicate S.length 0) (O.take m) k := by rw [← e1]; exact inst_take (zeros_ok h.1.1) h.1 hm
  have hl := resps_length S (List.replicate S.length 0) O O.length
  have hk : k.toNat < (resps S (List.replicate S.length 0) O O.length).length := by omega
  have hne : gI (resps S (List.replicate S.length 0) O O.length) k ≠ -1 := by
    rw [gI_eq hk]
    intro e
    exact h.2 (by rw [← e]; exact List.getElem_mem hk)
  rw [e2] at hne ⊢
  rcases respOf_char hin with ⟨e, _⟩ | ⟨r, ⟨c1, _, _⟩, e, _⟩
  · exact absurd e hne
  · have ht := gT_ok h.1.1 h0 h1
    unfold Task.ok at ht
    rw [gI_zeros] at e
    omega
theorem impl_FixedFeasible0 (S : List Task) (O : List Int) (hs : S.length ≤ 1048576) (ho : O.length ≤ 1048576) (c c' : Nat) : CallWp Try.prog n_impl_FixedFeasible [.sl 0 0 S.length c, .sl 1 0 O.length c'] [.ro (encTask.row S), .ro (encInt.row O)]
    (fun x σ => x = .b (decide (fpOk S O)) ∧ σ = [.ro (encTask.row S), .ro (encInt.row O)]) := by
  refine call_impl_FixedFeasible (by simp) ?_
  simp only [c_impl_FixedFeasible, go_sem, Int.reduceToNat, List.take_nil, Nat.zero_mul, Nat.reduceEqDiff, Nat.reduceAdd, Nat.reduceLT, Nat.reduceLeDiff, Nat.reduceMul, ↓reduceIte, reduceCtorEq]
  refine impl_OrderValid_ (S := S) (O := O) (by omega) (by omega) (Rd.own rfl) (Rd.own rfl) ?_
  simp only [not_true_eq_false, not_false_eq_true, decide_true, decide_false, Bool.not_true, Bool.not_false, false_implies, true_implies, and_true, true_and, Bool.false_eq_true, Bool.true_eq_false, implies_true, Bool.not_not, Classical.not_not, go_sem, Int.reduceToNat, List.take_nil, Nat.zero_mul, Nat.reduceEqDiff, Nat.reduceAdd, Nat.reduceLT, Nat.reduceLeDiff, Nat.reduceMul, ↓reduceIte, reduceCtorEq]
  refine ⟨fun hO => impl_ResponseTimes_ (S := S) (O := O) (by omega) (by omega) (Rd.own rfl) (Rd.own rfl) (fun h => absurd hO h) fun _ cap => ?_, fun hO => ?_⟩
  · have hl := resps_length S (List.replicate S.length 0) O O.length
    have h5 := hO.1.1
    have e : decide (fpOk S O) = !decide ((-1 : Int) ∈ resps S (List.replicate S.length 0) O O.length) := by
      rw [← decide_not]
      exact decide_eq_decide.2 ⟨fun h => h.2, fun h => ⟨hO, h⟩⟩
    rw [e]
    simp only [not_true_eq_false, not_false_eq_true, decide_true, decide_false, Bool.not_true, Bool.not_false, false_implies, true_implies, and_true, true_and, Bool.false_eq_true, Bool.true_eq_false, implies_true, Bool.not_not, Classical.not_not, go_sem, Int.reduceToNat, List.take_nil, Nat.zero_mul, Nat.reduceEqDiff, Nat.reduceAdd, Nat.reduceLT, Nat.reduceLeDiff, Nat.reduceMul, ↓reduceIte, reduceCtorEq]
    generalize resps S (List.replicate S.length 0) O O.length = Q at hl ⊢
    rw [← hl]
    refine slices_Contains_int_ (-1) (L := Q) (by omega) (Rd.own rfl) ?_
    simp only [not_true_eq_false, not_false_eq_true, decide_true, decide_false, Bool.not_true, Bool.not_false, false_implies, true_implies, and_true, true_and, Bool.false_eq_true, Bool.true_eq_false, implies_true, Bool.not_not, Classical.not_not, go_sem, Int.reduceToNat, List.take_nil, Nat.zero_mul, Nat.reduceEqDiff, Nat.reduceAdd, Nat.reduceLT, Nat.reduceLeDiff, Nat.reduceMul, ↓reduceIte, reduceCtorEq]
    exact Fin.pick [0, 1] (.b (decide ¬ (-1 : Int) ∈ Q)) [.ro (encTask.row S), .ro (encInt.row O)] ⟨rfl, rfl⟩
  · rw [show decide (fpOk S O) = false from decide_eq_false fun h => hO h.1]
    exact Fin.plain ⟨rfl, rfl⟩
theorem impl_FixedFeasible_ {S : List Task} {O : List Int} (hs : S.length ≤ 1048576) (ho : O.length ≤ 1048576) {v z : AV} {σ : List AB} (h1 : Rd encTask σ v S) (h3 : Rd encInt σ z O) {K : AV → List AB → Prop} (hk : K (.b (decide (fpOk S O))) σ) : CallWp Try.prog n_impl_FixedFeasible [v, z] σ K :=
  call_rds _ (rds_cons h1.r (rds1 h3.r)) (fun c => [.sl 0 0 S.length (c 0), .sl 1 0 O.length (c 1)]) (fun c => impl_FixedFeasible0 S O hs ho (c 0) (c 1)) (fun ν c h => ⟨h.1, h.2.1, trivial⟩) (fun _ => rfl) rfl hk
end Go.Proofs.Ytgnlibnnpipbhaa
