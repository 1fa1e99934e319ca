import Derived.Test.YtgnlibnnpipbhaaD2
import Derived.Test.YtgnlibnnpipbhaaC1
namespace Go.Proofs.Ytgnlibnnpipbhaa
open Go.Abs Go.Ds
set_option linter.unusedSimpArgs false
set_option linter.unusedVariables false
set_option maxRecDepth 20000
theorem spec_l20Open0 (C : List Nat) (c : Nat) (hc : C.length ≤ c) : CallWp Try.prog n_spec_l20Open [.sl 0 0 C.length c] [.ro (encByte.row C)] (fun x σ' => x = .p 1 0 ∧ σ' = [.ro (encByte.row C), .rw ty_spec_l20Rd [.sl 0 0 (C.take 2000).length c, .i .i64 0] 2]) := by
  refine call_spec_l20Open (by simp) ?_
  simp only [c_spec_l20Open, go_sem, Int.reduceToNat, List.take_nil, Nat.zero_mul, Nat.reduceEqDiff, Nat.reduceAdd, Nat.reduceLT, Nat.reduceLeDiff, Nat.reduceMul, ↓reduceIte, reduceCtorEq]
  refine seq_join (fun _ : Unit => ⟨[(0, .sl 0 0 (C.take 2000).length c)], [.ro (encByte.row C)]⟩) (fun _ => True) ?_ fun _ _ => ?_
  · simp only [go_sem, Int.reduceToNat, List.take_nil, Nat.zero_mul, Nat.reduceEqDiff, Nat.reduceAdd, Nat.reduceLT, Nat.reduceLeDiff, Nat.reduceMul, ↓reduceIte, reduceCtorEq]
    refine ⟨fun h => ⟨by omega, by omega, kJ_intro () trivial ?_⟩, fun h => kJ_intro () trivial ?_⟩
    · have : (C.take 2000).length = 2000 := by rw [List.length_take]; omega
      rw [this]
      exact Wk.pick [0]
    · rw [List.take_of_length_le (by omega)]; exact Wk.pick [0]
  · simp only [go_sem, Int.reduceToNat, List.take_nil, Nat.zero_mul, Nat.reduceEqDiff, Nat.reduceAdd, Nat.reduceLT, Nat.reduceLeDiff, Nat.reduceMul, ↓reduceIte, reduceCtorEq]
    exact Fin.plain ⟨rfl, rfl⟩
theorem Rdr.take {C : List Nat} {c : Nat} {p : Int} {τ : List AB} : Rdr ty_spec_l20Rd (.ro (encByte.row C) :: .rw ty_spec_l20Rd [.sl 0 0 (C.take 2000).length c, .i .i64 p] 2 :: τ) 1 (C.take 2000) p 0 0 c := by
  have h1 : (encByte.row C).take (C.take 2000).length = encByte.row (C.take 2000) := by
    have h := encByte.take C (C.take 2000).length
    simp only [encByte, Nat.mul_one] at h
    simp only [encByte]
    rw [h]
    congr 1
    rw [List.length_take]
    rcases Nat.le_total 2000 C.length with h | h
    · rw [Nat.min_eq_left h]
    · rw [Nat.min_eq_right h, List.take_length, List.take_of_length_le h]
  refine ⟨rfl, by decide, encByte.row C, rfl, by rw [lenB, List.length_take]; omega, ?_⟩
  simp only [Abs.win, List.drop_zero, h1]
theorem laws_alive_ {σ : List AB} {K : AV → List AB → Prop} (hk : K (.b true) σ) : CallWp Try.prog n_laws_alive [] σ K := by
  refine call0 (r := .b true) ?_ rfl rfl hk
  refine call_laws_alive (by simp) ?_
  simp only [c_laws_alive, go_sem, Int.reduceToNat, List.take_nil, Nat.zero_mul, Nat.reduceEqDiff, Nat.reduceAdd, Nat.reduceLT, Nat.reduceLeDiff, Nat.reduceMul, ↓reduceIte, reduceCtorEq]
  refine impl_TaskValid_ ⟨1, 1, 1⟩ ?_
  simp only [go_sem, Int.reduceToNat, List.take_nil, Nat.zero_mul, Nat.reduceEqDiff, Nat.reduceAdd, Nat.reduceLT, Nat.reduceLeDiff, Nat.reduceMul, ↓reduceIte, reduceCtorEq]
  exact Fin.same rfl
theorem Code.take {C : List Nat} (h : ∀ x ∈ C, x < 256) : Code (C.take 2000) := ⟨by rw [List.length_take]; omega, fun x hx => h x (List.mem_of_mem_take hx)⟩
end Go.Proofs.Ytgnlibnnpipbhaa
