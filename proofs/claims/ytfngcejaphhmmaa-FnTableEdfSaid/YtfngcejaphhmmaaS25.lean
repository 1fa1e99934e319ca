import Derived.Test.YtfngcejaphhmmaaS19
import Derived.Test.YtfngcejaphhmmaaAbsY
import Derived.Test.YtfngcejaphhmmaaM20
namespace Go.Proofs.Ytfngcejaphhmmaa
open Go.Abs Go.Ds
set_option linter.unusedSimpArgs false
set_option linter.unusedVariables false
set_option maxRecDepth 20000
set_option maxHeartbeats 1000000
theorem Rd.nul {α : Type} {E : Enc α} {σ : List AB} (h : 0 < σ.length) : Rd E σ .sn [] := .inr ⟨rfl, rfl, h⟩
def OnP (N : Nat) (M : List Task) (x : AV) (τ : List AB) : Prop := (M = [] ∧ x = .sn ∧ τ = []) ∨ ∃ c', x = .sl N 0 M.length M.length ∧ τ = [.rw ty_impl_Task (encTask.row M) c']
theorem OnP.fr {N : Nat} {M : List Task} {x : AV} {τ : List AB} (h : OnP N M x τ) : τ.all plainRw = true ∧ freshA N x = true := by
  rcases h with ⟨_, rfl, rfl⟩ | ⟨c, rfl, rfl⟩
  · exact ⟨rfl, rfl⟩
  · simp [plainRw, encTask.row_flat, freshA, fresh1A, freshC]
def OnQ (N : Nat) (M : List Task) (x : AV) (τ : List AB) : Prop := ∃ c, x = .sl N 0 M.length c ∧ M.length ≤ c ∧ τ = [.rw ty_impl_Task (encTask.row M) (c * 3)]
theorem OnQ.fr {N : Nat} {M : List Task} {x : AV} {τ : List AB} (h : OnQ N M x τ) : τ.all plainRw = true ∧ freshA N x = true := by
  obtain ⟨c, rfl, _, rfl⟩ := h
  simp [plainRw, encTask.row_flat, freshA, fresh1A, freshC]
def onB (M : List Task) : Option Nat → List AB
  | none => []
  | some cap => [.rw ty_impl_Task (encTask.row M) (cap * 3)]
def onJ (M : List Task) : Option Nat → Prop
  | none => M = []
  | some cap => M.length ≤ cap
end Go.Proofs.Ytfngcejaphhmmaa
