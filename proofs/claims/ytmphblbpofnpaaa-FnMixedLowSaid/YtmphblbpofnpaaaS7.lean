import Derived.Test.YtmphblbpofnpaaaS5
import Derived.Test.YtmphblbpofnpaaaS6
namespace Go.Proofs.Ytmphblbpofnpaaa
open Go.Abs Go.Ds
set_option linter.unusedSimpArgs false
set_option linter.unusedVariables false
set_option maxRecDepth 20000
theorem Rd.len' {α : Type} {E : Enc α} {σ : List AB} {n len cap : Nat} {L : List α} (h : cellsOf σ n = some (E.row L)) (hl : L.length = len) : Rd E σ (.sl n 0 len cap) L := by subst hl; exact Rd.own h
def SchedQ (N : Nat) (ok : Prop) (run fin : List Int) (x : AV) (τ : List AB) : Prop :=
  (¬ ok ∧ x = .agg [.sn, .sn] ∧ τ = []) ∨ (ok ∧ ∃ c1 c2, (fin ≠ [] ∧ x = .agg [.sl N 0 120 c1, .sl (N + 1) 0 fin.length c2] ∧ τ = [.rw ty_int (encInt.row run) c1, .rw ty_int (encInt.row fin) c2]) ∨ (fin = [] ∧ x = .agg [.sl N 0 120 c1, .sn] ∧ τ = [.rw ty_int (encInt.row run) c1]))
theorem SchedQ.fr {N : Nat} {ok : Prop} {run fin : List Int} {x : AV} {τ : List AB} (h : SchedQ N ok run fin x τ) : τ.all plainRw = true ∧ freshA N x = true := by
  rcases h with ⟨_, rfl, rfl⟩ | ⟨_, c1, c2, ⟨_, rfl, rfl⟩ | ⟨_, rfl, rfl⟩⟩
  · exact ⟨rfl, rfl⟩
  · simp [plainRw, encInt.row_flat, freshA, fresh1A, freshC]
  · simp [plainRw, encInt.row_flat, freshA, fresh1A, freshC, flat]
end Go.Proofs.Ytmphblbpofnpaaa
