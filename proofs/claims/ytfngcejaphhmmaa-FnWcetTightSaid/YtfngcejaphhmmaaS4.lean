import Derived.Test.YtfngcejaphhmmaaS3
import Derived.Test.YtfngcejaphhmmaaAbsY
import Derived.Test.YtfngcejaphhmmaaC2
namespace Go.Proofs.Ytfngcejaphhmmaa
open Go.Abs Go.Ds
set_option linter.unusedSimpArgs false
set_option linter.unusedVariables false
set_option maxRecDepth 20000
def SchedP (N : Nat) (ok : Prop) (run fin : List Int) (len : Nat) (x : AV) (τ : List AB) : Prop :=
  (¬ ok ∧ x = .agg [.sn, .sn] ∧ τ = []) ∨ (ok ∧ ∃ c1 c2, x = .agg [.sl N 0 120 c1, .sl (N + 1) 0 len c2] ∧ τ = [.rw ty_int (encInt.row run) c1, .rw ty_int (encInt.row fin) c2])
theorem SchedP.fr {N : Nat} {ok : Prop} {run fin : List Int} {len : Nat} {x : AV} {τ : List AB} (h : SchedP N ok run fin len x τ) : τ.all plainRw = true ∧ freshA N x = true := by
  rcases h with ⟨_, rfl, rfl⟩ | ⟨_, c1, c2, rfl, rfl⟩
  · exact ⟨rfl, rfl⟩
  · simp [plainRw, encInt.row_flat, freshA, fresh1A, freshC]
end Go.Proofs.Ytfngcejaphhmmaa
