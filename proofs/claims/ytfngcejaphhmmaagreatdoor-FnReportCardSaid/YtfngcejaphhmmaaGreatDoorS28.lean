import Derived.Test.YtfngcejaphhmmaaGreatDoorS27
namespace Go.Proofs.YtfngcejaphhmmaaGreatDoor
open Go.Abs Go.Ds
set_option linter.unusedSimpArgs false
set_option linter.unusedVariables false
set_option maxRecDepth 20000
set_option maxHeartbeats 1000000
section
variable {f : Nat} {first caps : List (Nat × Nat)} {σ : List AB} {n cap : Nat} {L : List Int} {K : AV → List AB → Prop}
end
def asgV (S : List Task) (m : Int) (A : List Int) : Prop := coresOk S m ∧ A.length = S.length ∧ ∀ x ∈ A, 0 ≤ x ∧ x < m
noncomputable instance (S : List Task) (m : Int) (A : List Int) : Decidable (asgV S m A) := Classical.propDecidable _
def asgOk (S : List Task) (m : Int) (A : List Int) : Prop := coresOk S m ∧ feasA S m.toNat A
noncomputable instance (S : List Task) (m : Int) (A : List Int) : Decidable (asgOk S m A) := Classical.propDecidable _
theorem OnP.rd {σ : List AB} {M : List Task} {x : AV} {τ : List AB} (h : OnP σ.length M x τ) (h0 : 0 < σ.length) : Rd encTask (σ ++ τ) x M := by
  rcases h with ⟨rfl, rfl, rfl⟩ | ⟨c, rfl, rfl⟩
  · exact .inr ⟨rfl, rfl, by simpa using h0⟩
  · exact Rd.own (by simp [cellsOf])
end Go.Proofs.YtfngcejaphhmmaaGreatDoor
