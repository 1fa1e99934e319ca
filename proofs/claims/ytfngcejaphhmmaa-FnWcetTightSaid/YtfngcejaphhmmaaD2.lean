import Derived.Test.YtfngcejaphhmmaaD1
namespace Go.Proofs.Ytfngcejaphhmmaa
open Go.Abs Go.Ds
set_option linter.unusedSimpArgs false
set_option linter.unusedVariables false
set_option maxRecDepth 20000
theorem Sl.own {α : Type} {E : Enc α} {σ : List AB} {n q cap : Nat} {L : List α} (h : cellsOf σ q = some (E.row L)) (hq : q ≠ n) : (⟨.sl q 0 L.length cap, L.length, E.row L⟩ : Sl).okx σ n := by
  refine ⟨E.row_flat L, .inl ⟨q, 0, cap, E.row L, rfl, hq, ?_, h, by simp, by simp [Abs.win]⟩⟩
  rcases cellsOf_cases h with hh | ⟨_, _, hh⟩ <;> exact (List.getElem?_eq_some_iff.1 hh).1
end Go.Proofs.Ytfngcejaphhmmaa
