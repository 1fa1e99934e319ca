import Derived.Test.YtfngcejaphhmmaaDoorAbsY
import Derived.Test.YtfngcejaphhmmaaDoorLow
import Derived.Test.YtfngcejaphhmmaaDoorMM
namespace Go.Proofs.YtfngcejaphhmmaaDoor
open Go.Abs Go.Ds
set_option linter.unusedSimpArgs false
set_option linter.unusedVariables false
def encTask : Enc Task := ⟨fun t => [.i .i64 t.C, .i .i64 t.D, .i .i64 t.P], 3, fun _ => rfl, fun _ => rfl⟩
theorem impl_in0 (n lo hi : Int) : CallWp Tryd.prog n_impl_in [.i .i64 n, .i .i64 lo, .i .i64 hi] [] (fun x σ => x = .b (decide (lo ≤ n ∧ n ≤ hi)) ∧ σ = []) := by
  refine call_impl_in (by simp) ?_
  simp only [c_impl_in, go_sem, Int.reduceToNat, List.take_nil, Nat.zero_mul, Nat.reduceEqDiff, Nat.reduceAdd, Nat.reduceLT, Nat.reduceLeDiff, Nat.reduceMul, ↓reduceIte, reduceCtorEq]
  refine ⟨fun h => Fin.plain ⟨by simp [h], rfl⟩, fun h => Fin.plain ⟨by simp [h], rfl⟩⟩
theorem impl_in_ (n lo hi : Int) {σ : List AB} {K : AV → List AB → Prop} (hk : K (.b (decide (lo ≤ n ∧ n ≤ hi))) σ) : CallWp Tryd.prog n_impl_in [.i .i64 n, .i .i64 lo, .i .i64 hi] σ K :=
  call0 (impl_in0 n lo hi) rfl rfl hk
theorem spec_l1In0 (n lo hi : Int) : CallWp Tryd.prog n_spec_l1In [.i .i64 n, .i .i64 lo, .i .i64 hi] [] (fun x σ => x = .b (decide (lo ≤ n ∧ n ≤ hi)) ∧ σ = []) := by
  refine call_spec_l1In (by simp) ?_
  simp only [c_spec_l1In, go_sem, Int.reduceToNat, List.take_nil, Nat.zero_mul, Nat.reduceEqDiff, Nat.reduceAdd, Nat.reduceLT, Nat.reduceLeDiff, Nat.reduceMul, ↓reduceIte, reduceCtorEq]
  refine ⟨fun h => Fin.plain ⟨by simp [h], rfl⟩, fun h => Fin.plain ⟨by simp [h], rfl⟩⟩
theorem spec_l1In_ (n lo hi : Int) {σ : List AB} {K : AV → List AB → Prop} (hk : K (.b (decide (lo ≤ n ∧ n ≤ hi))) σ) : CallWp Tryd.prog n_spec_l1In [.i .i64 n, .i .i64 lo, .i .i64 hi] σ K :=
  call0 (spec_l1In0 n lo hi) rfl rfl hk
theorem spec_TaskValid0 (t : Task) : CallWp Tryd.prog n_spec_TaskValid [.agg (encTask.f t)] [] (fun x σ => x = .b (decide t.ok) ∧ σ = []) := by
  refine call_spec_TaskValid (by simp) ?_
  simp only [c_spec_TaskValid, encTask, go_sem, Int.reduceToNat, List.take_nil, Nat.zero_mul, Nat.reduceEqDiff, Nat.reduceAdd, Nat.reduceLT, Nat.reduceLeDiff, Nat.reduceMul, ↓reduceIte, reduceCtorEq]
  refine spec_l1In_ _ _ _ ?_
  simp only [go_sem, Int.reduceToNat, List.take_nil, Nat.zero_mul, Nat.reduceEqDiff, Nat.reduceAdd, Nat.reduceLT, Nat.reduceLeDiff, Nat.reduceMul, ↓reduceIte, reduceCtorEq]
  refine ⟨fun h1 => spec_l1In_ _ _ _ ?_, fun h1 => Fin.same ?_⟩
  · simp only [go_sem, Int.reduceToNat, List.take_nil, Nat.zero_mul, Nat.reduceEqDiff, Nat.reduceAdd, Nat.reduceLT, Nat.reduceLeDiff, Nat.reduceMul, ↓reduceIte, reduceCtorEq]
    refine ⟨fun h2 => spec_l1In_ _ _ _ ?_, fun h2 => Fin.same ?_⟩
    · simp only [go_sem, Int.reduceToNat, List.take_nil, Nat.zero_mul, Nat.reduceEqDiff, Nat.reduceAdd, Nat.reduceLT, Nat.reduceLeDiff, Nat.reduceMul, ↓reduceIte, reduceCtorEq]
      exact Fin.same (by unfold Task.ok; congr 1; apply decide_eq_decide.2; omega)
    · unfold Task.ok; congr 1; symm; apply decide_eq_false; omega
  · unfold Task.ok; congr 1; symm; apply decide_eq_false; omega
theorem spec_TaskValid_ (t : Task) {σ : List AB} {K : AV → List AB → Prop} (hk : K (.b (decide t.ok)) σ) : CallWp Tryd.prog n_spec_TaskValid [.agg (encTask.f t)] σ K :=
  call0 (spec_TaskValid0 t) rfl rfl hk
theorem impl_TaskValid0 (t : Task) : CallWp Tryd.prog n_impl_TaskValid [.agg (encTask.f t)] [] (fun x σ => x = .b (decide t.ok) ∧ σ = []) := by
  refine call_impl_TaskValid (by simp) ?_
  simp only [c_impl_TaskValid, encTask, go_sem, Int.reduceToNat, List.take_nil, Nat.zero_mul, Nat.reduceEqDiff, Nat.reduceAdd, Nat.reduceLT, Nat.reduceLeDiff, Nat.reduceMul, ↓reduceIte, reduceCtorEq]
  refine impl_in_ _ _ _ ?_
  simp only [go_sem, Int.reduceToNat, List.take_nil, Nat.zero_mul, Nat.reduceEqDiff, Nat.reduceAdd, Nat.reduceLT, Nat.reduceLeDiff, Nat.reduceMul, ↓reduceIte, reduceCtorEq]
  refine ⟨fun h1 => impl_in_ _ _ _ ?_, fun h1 => Fin.same ?_⟩
  · simp only [go_sem, Int.reduceToNat, List.take_nil, Nat.zero_mul, Nat.reduceEqDiff, Nat.reduceAdd, Nat.reduceLT, Nat.reduceLeDiff, Nat.reduceMul, ↓reduceIte, reduceCtorEq]
    refine ⟨fun h2 => Fin.same ?_, fun h2 => Fin.same ?_⟩
    · unfold Task.ok; congr 1; apply decide_eq_decide.2; omega
    · unfold Task.ok; congr 1; symm; apply decide_eq_false; omega
  · unfold Task.ok; congr 1; symm; apply decide_eq_false; omega
theorem impl_TaskValid_ (t : Task) {σ : List AB} {K : AV → List AB → Prop} (hk : K (.b (decide t.ok)) σ) : CallWp Tryd.prog n_impl_TaskValid [.agg (encTask.f t)] σ K :=
  call0 (impl_TaskValid0 t) rfl rfl hk
section
variable {f : Nat} {first caps : List (Nat × Nat)} {σ : List AB} {v : AV} {L : List Task} {K : AV → List AB → Prop}
end
end Go.Proofs.YtfngcejaphhmmaaDoor
