import Derived.Test.YtfngcejaphhmmaaE2
import Derived.Test.YtfngcejaphhmmaaS1
import Derived.Test.YtfngcejaphhmmaaMM
namespace Go.Proofs.Ytfngcejaphhmmaa
open Go.Abs Go.Ds
set_option linter.unusedSimpArgs false
set_option linter.unusedVariables false
set_option maxRecDepth 20000
/-- Block m is a machine over the jobs L. -/
structure Mach (σ : List AB) (m : Nat) (L : List Job) (done : List Int) (now : Nat) : Prop where
  ex : ∃ j c d c', cellsOf σ m = some [.sl j 0 L.length c, .sl d 0 L.length c', .i .i64 now] ∧ cellsOf σ j = some (encJob.row L) ∧ cellsOf σ d = some (encInt.row done)
  len : done.length = L.length
theorem Mach.app {σ : List AB} {m : Nat} {L : List Job} {done : List Int} {now : Nat} (h : Mach σ m L done now) (τ : List AB) : Mach (σ ++ τ) m L done now := by
  obtain ⟨⟨j, c, d, c', h1, h2, h3⟩, h4⟩ := h
  exact ⟨⟨j, c, d, c', cells_old h1 τ, cells_old h2 τ, cells_old h3 τ⟩, h4⟩
section
variable {σ : List AB} {m : Nat} {L : List Job} {done : List Int} {now : Nat} {K : AV → List AB → Prop}
end
end Go.Proofs.Ytfngcejaphhmmaa
