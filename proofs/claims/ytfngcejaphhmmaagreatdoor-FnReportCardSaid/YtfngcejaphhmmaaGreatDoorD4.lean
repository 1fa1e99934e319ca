import Derived.Test.YtfngcejaphhmmaaGreatDoorD2
import Derived.Test.YtfngcejaphhmmaaGreatDoorC1
namespace Go.Proofs.YtfngcejaphhmmaaGreatDoor
open Go.Abs Go.Ds
set_option linter.unusedSimpArgs false
set_option linter.unusedVariables false
set_option maxRecDepth 20000
theorem Rdr.take {C : List Nat} {c : Nat} {p : Int} {τ : List AB} : Rdr ty_spec_l20Rd (.ro (encByte.row C) :: .rw ty_spec_l20Rd [.sl 0 0 (C.take 2000).length c, .i .i64 p] 2 :: τ) 1 (C.take 2000) p 0 0 c := by
  have h1 : (encByte.row C).take (C.take 2000).length = encByte.row (C.take 2000) := by
    have h := encByte.take C (C.take 2000).length
    simp only [encByte, Nat.mul_one] at h
    simp only [encByte]
    rw [h]
    congr 1
    rw [List.length_take]
    rcases Nat.le_total 2000 C.length with h | h
    · rw [Nat.min_eq_left h]
    · rw [Nat.min_eq_right h, List.take_length, List.take_of_length_le h]
  refine ⟨rfl, by decide, encByte.row C, rfl, by rw [lenB, List.length_take]; omega, ?_⟩
  simp only [Abs.win, List.drop_zero, h1]
theorem laws_alive_ {σ : List AB} {K : AV → List AB → Prop} (hk : K (.b true) σ) : CallWp Tryz.prog n_laws_alive [] σ K := by
  refine call0 (r := .b true) ?_ rfl rfl hk
  refine call_laws_alive (by simp) ?_
  simp only [c_laws_alive, go_sem, Int.reduceToNat, List.take_nil, Nat.zero_mul, Nat.reduceEqDiff, Nat.reduceAdd, Nat.reduceLT, Nat.reduceLeDiff, Nat.reduceMul, ↓reduceIte, reduceCtorEq]
  refine impl_TaskValid_ ⟨1, 1, 1⟩ ?_
  simp only [go_sem, Int.reduceToNat, List.take_nil, Nat.zero_mul, Nat.reduceEqDiff, Nat.reduceAdd, Nat.reduceLT, Nat.reduceLeDiff, Nat.reduceMul, ↓reduceIte, reduceCtorEq]
  exact Fin.same rfl
theorem Code.take {C : List Nat} (h : ∀ x ∈ C, x < 256) : Code (C.take 2000) := ⟨by rw [List.length_take]; omega, fun x hx => h x (List.mem_of_mem_take hx)⟩
end Go.Proofs.YtfngcejaphhmmaaGreatDoor
