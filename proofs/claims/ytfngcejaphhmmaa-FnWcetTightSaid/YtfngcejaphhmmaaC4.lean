import Derived.Test.YtfngcejaphhmmaaC1
import Derived.Test.YtfngcejaphhmmaaMM
namespace Go.Proofs.Ytfngcejaphhmmaa
open Go.Abs Go.Ds
set_option linter.unusedSimpArgs false
set_option linter.unusedVariables false
theorem Rd.first {α : Type} {E : Enc α} {σ : List AB} {n cap k : Nat} {L : List α} (h : cellsOf σ n = some (E.row L)) (hk : k ≤ L.length) : Rd E σ (.sl n 0 k cap) (L.take k) := by
  have hl : (L.take k).length = k := by rw [List.length_take]; omega
  refine .inl ⟨n, 0, cap, E.row L, by rw [hl], ?_, h, ?_, ?_⟩
  · rcases cellsOf_cases h with hh | ⟨_, _, hh⟩ <;> exact (List.getElem?_eq_some_iff.1 hh).1
  · rw [hl, E.row_length, Nat.zero_add]; exact Nat.mul_le_mul_right _ hk
  · rw [hl]; simp only [win, List.drop_zero]; exact E.take L k
end Go.Proofs.Ytfngcejaphhmmaa
