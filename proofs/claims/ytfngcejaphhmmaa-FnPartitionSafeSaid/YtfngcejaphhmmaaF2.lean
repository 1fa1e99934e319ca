/- Contracts: drawn release patterns. -/
import Derived.Test.YtfngcejaphhmmaaD2
import Derived.Test.YtfngcejaphhmmaaE1
namespace Go.Proofs.Ytfngcejaphhmmaa
open Go.Abs Go.Ds
set_option linter.unusedSimpArgs false
set_option linter.unusedVariables false
set_option maxRecDepth 20000

def wildJ (j : Job) : Prop := (-1 ≤ j.T ∧ j.T ≤ 20) ∧ (-1 ≤ j.R ∧ j.R ≤ 200) ∧ (-1 ≤ j.D ∧ j.D ≤ 300) ∧ (0 ≤ j.E ∧ j.E ≤ 20)
def wild0 (j : Job) : Prop := (0 ≤ j.T ∧ j.T ≤ 5) ∧ (0 ≤ j.R ∧ j.R ≤ 100) ∧ (0 ≤ j.D ∧ j.D ≤ 120) ∧ (1 ≤ j.E ∧ j.E ≤ 8)
theorem wild0.wild {j : Job} (h : wild0 j) : wildJ j := by unfold wild0 at h; unfold wildJ; omega
theorem mem_app {α : Type} {P : α → Prop} {L : List α} {x : α} (h : ∀ y ∈ L, P y) (hx : P x) : ∀ y ∈ L ++ [x], P y := by
  intro y hy
  rcases List.mem_append.1 hy with hy | hy
  · exact h y hy
  · rw [List.mem_singleton.1 hy]; exact hx
theorem mem_set {α : Type} {P : α → Prop} {L : List α} {k : Nat} {x : α} (h : ∀ y ∈ L, P y) (hx : P x) : ∀ y ∈ L.set k x, P y := by
  intro y hy
  rcases List.mem_or_eq_of_mem_set hy with hy | rfl
  · exact h y hy
  · exact hx

def JobsP (s : Nat) (p : Int) (x : AV) (p' : Int) (τ : List AB) : Prop := (p ≤ p' ∧ p' ≤ p + 3000) ∧ ∃ (L : List Job) (cap : Nat), x = .sl s 0 L.length cap ∧ τ = [.rw ty_impl_Job (encJob.row L) (cap * 4)] ∧ L.length ≤ 62 ∧ ∀ j ∈ L, wildJ j

end Go.Proofs.Ytfngcejaphhmmaa
