import Derived.Test.YtfngcejaphhmmaaAbsY
import Derived.Test.YtfngcejaphhmmaaLow
import Derived.Test.YtfngcejaphhmmaaMM
namespace Go.Proofs.Ytfngcejaphhmmaa
open Go.Abs Go.Ds
set_option linter.unusedSimpArgs false
set_option linter.unusedVariables false
def encTask : Enc Task := ⟨fun t => [.i .i64 t.C, .i .i64 t.D, .i .i64 t.P], 3, fun _ => rfl, fun _ => rfl⟩
theorem lenT (L : List Task) : (encTask.row L).length = L.length * 3 := encTask.row_length L
theorem rdT0 {L : List Task} {k : Nat} (h : k < L.length) : rd (encTask.row L) (k * 3) = .i .i64 (L[k]'h).C := encTask.rd L k 0 h (by decide)
theorem rdT1 {L : List Task} {k : Nat} (h : k < L.length) : rd (encTask.row L) (k * 3 + 1) = .i .i64 (L[k]'h).D := encTask.rd L k 1 h (by decide)
theorem rdT2 {L : List Task} {k : Nat} (h : k < L.length) : rd (encTask.row L) (k * 3 + 2) = .i .i64 (L[k]'h).P := encTask.rd L k 2 h (by decide)
theorem winT {L : List Task} {k : Nat} (h : k < L.length) : win (encTask.row L) (k * 3) 3 = encTask.f (L[k]'h) := encTask.win L k h
theorem takeT (L : List Task) : (encTask.row L).take (L.length * 3) = encTask.row L := List.take_of_length_le (by rw [lenT]; omega)
theorem appT (L : List Task) (a b c : Int) : encTask.row L ++ [.i .i64 a, .i .i64 b, .i .i64 c] = encTask.row (L ++ [⟨a, b, c⟩]) := by rw [encTask.row_append, encTask.row_one]; rfl
theorem lenI (L : List Int) : (encInt.row L).length = L.length := by simpa [encInt] using encInt.row_length L
theorem rdI {L : List Int} {k : Nat} (h : k < L.length) : rd (encInt.row L) k = .i .i64 (L[k]'h) := by simpa [encInt, rd] using encInt.rd L k 0 h (by decide)
theorem splI {L : List Int} {k : Nat} (h : k < L.length) (a : Int) : spl (encInt.row L) k [.i .i64 a] = encInt.row (L.set k a) := by simpa [encInt] using encInt.set L k h a
theorem splT {L : List Task} {k : Nat} (h : k < L.length) (a b c : Int) : spl (encTask.row L) (k * 3) [.i .i64 a, .i .i64 b, .i .i64 c] = encTask.row (L.set k ⟨a, b, c⟩) := encTask.set L k h ⟨a, b, c⟩
theorem winI (L : List Int) : win (encInt.row L) 0 L.length = encInt.row L := by rw [← lenI L]; simp [win]
theorem takeI (L : List Int) : (encInt.row L).take L.length = encInt.row L := List.take_of_length_le (by rw [lenI]; omega)
theorem appI (L : List Int) (a : Int) : encInt.row L ++ [.i .i64 a] = encInt.row (L ++ [a]) := by rw [encInt.row_append, encInt.row_one]; rfl
theorem impl_in0 (n lo hi : Int) : CallWp Try.prog n_impl_in [.i .i64 n, .i .i64 lo, .i .i64 hi] [] (fun x σ => x = .b (decide (lo ≤ n ∧ n ≤ hi)) ∧ σ = []) := by
  refine call_impl_in (by simp) ?_
  simp only [c_impl_in, go_sem, Int.reduceToNat, List.take_nil, Nat.zero_mul, Nat.reduceEqDiff, Nat.reduceAdd, Nat.reduceLT, Nat.reduceLeDiff, Nat.reduceMul, ↓reduceIte, reduceCtorEq]
  refine ⟨fun h => Fin.plain ⟨by simp [h], rfl⟩, fun h => Fin.plain ⟨by simp [h], rfl⟩⟩
theorem impl_in_ (n lo hi : Int) {σ : List AB} {K : AV → List AB → Prop} (hk : K (.b (decide (lo ≤ n ∧ n ≤ hi))) σ) : CallWp Try.prog n_impl_in [.i .i64 n, .i .i64 lo, .i .i64 hi] σ K :=
  call0 (impl_in0 n lo hi) rfl rfl hk
theorem spec_l1In0 (n lo hi : Int) : CallWp Try.prog n_spec_l1In [.i .i64 n, .i .i64 lo, .i .i64 hi] [] (fun x σ => x = .b (decide (lo ≤ n ∧ n ≤ hi)) ∧ σ = []) := by
  refine call_spec_l1In (by simp) ?_
  simp only [c_spec_l1In, go_sem, Int.reduceToNat, List.take_nil, Nat.zero_mul, Nat.reduceEqDiff, Nat.reduceAdd, Nat.reduceLT, Nat.reduceLeDiff, Nat.reduceMul, ↓reduceIte, reduceCtorEq]
  refine ⟨fun h => Fin.plain ⟨by simp [h], rfl⟩, fun h => Fin.plain ⟨by simp [h], rfl⟩⟩
theorem spec_l1In_ (n lo hi : Int) {σ : List AB} {K : AV → List AB → Prop} (hk : K (.b (decide (lo ≤ n ∧ n ≤ hi))) σ) : CallWp Try.prog n_spec_l1In [.i .i64 n, .i .i64 lo, .i .i64 hi] σ K :=
  call0 (spec_l1In0 n lo hi) rfl rfl hk
theorem impl_TaskValid0 (t : Task) : CallWp Try.prog n_impl_TaskValid [.agg (encTask.f t)] [] (fun x σ => x = .b (decide t.ok) ∧ σ = []) := by
  refine call_impl_TaskValid (by simp) ?_
  simp only [c_impl_TaskValid, encTask, go_sem, Int.reduceToNat, List.take_nil, Nat.zero_mul, Nat.reduceEqDiff, Nat.reduceAdd, Nat.reduceLT, Nat.reduceLeDiff, Nat.reduceMul, ↓reduceIte, reduceCtorEq]
  refine impl_in_ _ _ _ ?_
  simp only [go_sem, Int.reduceToNat, List.take_nil, Nat.zero_mul, Nat.reduceEqDiff, Nat.reduceAdd, Nat.reduceLT, Nat.reduceLeDiff, Nat.reduceMul, ↓reduceIte, reduceCtorEq]
  refine ⟨fun h1 => impl_in_ _ _ _ ?_, fun h1 => Fin.same ?_⟩
  · simp only [go_sem, Int.reduceToNat, List.take_nil, Nat.zero_mul, Nat.reduceEqDiff, Nat.reduceAdd, Nat.reduceLT, Nat.reduceLeDiff, Nat.reduceMul, ↓reduceIte, reduceCtorEq]
    refine ⟨fun h2 => Fin.same ?_, fun h2 => Fin.same ?_⟩
    · unfold Task.ok; congr 1; apply decide_eq_decide.2; omega
    · unfold Task.ok; congr 1; symm; apply decide_eq_false; omega
  · unfold Task.ok; congr 1; symm; apply decide_eq_false; omega
theorem impl_TaskValid_ (t : Task) {σ : List AB} {K : AV → List AB → Prop} (hk : K (.b (decide t.ok)) σ) : CallWp Try.prog n_impl_TaskValid [.agg (encTask.f t)] σ K :=
  call0 (impl_TaskValid0 t) rfl rfl hk
section
variable {f : Nat} {first caps : List (Nat × Nat)} {σ : List AB} {v : AV} {L : List Task} {K : AV → List AB → Prop}
end
end Go.Proofs.Ytfngcejaphhmmaa
