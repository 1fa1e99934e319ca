import Derived.Test.YtmphblbpofnpaaaS5
import Derived.Test.YtmphblbpofnpaaaS6
namespace Go.Proofs.Ytmphblbpofnpaaa
open Go.Abs Go.Ds
set_option linter.unusedSimpArgs false
set_option linter.unusedVariables false
set_option maxRecDepth 20000
theorem Rd.len' {α : Type} {E : Enc α} {σ : List AB} {n len cap : Nat} {L : List α} (h : cellsOf σ n = some (E.row L)) (hl : L.length = len) : Rd E σ (.sl n 0 len cap) L := by subst hl; exact Rd.own h
def leftOf (L : List Job) (done : List Int) : List Int := (List.range L.length).map fun i => (L.getD i default).E - gI done i
theorem leftOf_length (L : List Job) (done : List Int) : (leftOf L done).length = L.length := by simp [leftOf]
theorem leftOf_get (L : List Job) (done : List Int) (i : Nat) (h : i < (leftOf L done).length) : (leftOf L done)[i] = (L.getD i default).E - gI done i := by simp [leftOf]
theorem leftOf_gI (L : List Job) (done : List Int) (i : Nat) (h : i < L.length) : gI (leftOf L done) i = (L.getD i default).E - gI done i := by
  rw [gI_eq (by rw [leftOf_length]; simpa using h)]; simp [leftOf]
theorem leftOf_zero (L : List Job) : leftOf L (List.replicate L.length 0) = L.map Job.E := by
  apply List.ext_getElem
  · simp [leftOf]
  · intro i h1 h2
    rw [leftOf_length] at h1
    rw [leftOf_get, gI_rep _ _ _ h1]; simp [List.getD_eq_getElem?_getD, h1]
theorem leftOf_set (L : List Job) (done : List Int) (k : Nat) (h : k < L.length) (hd : done.length = L.length) : leftOf L (done.set k (gI done k + 1)) = (leftOf L done).set k (gI (leftOf L done) k - 1) := by
  apply List.ext_getElem
  · simp [leftOf]
  · intro i h1 h2
    rw [leftOf_length] at h1
    rw [leftOf_get, List.getElem_set, gI_set (by omega)]
    split
    · rename_i e; subst e; rw [leftOf_gI _ _ _ h]; omega
    · rw [leftOf_get]
def SchedQ (N : Nat) (ok : Prop) (run fin : List Int) (x : AV) (τ : List AB) : Prop :=
  (¬ ok ∧ x = .agg [.sn, .sn] ∧ τ = []) ∨ (ok ∧ ∃ c1 c2, (fin ≠ [] ∧ x = .agg [.sl N 0 120 c1, .sl (N + 1) 0 fin.length c2] ∧ τ = [.rw ty_int (encInt.row run) c1, .rw ty_int (encInt.row fin) c2]) ∨ (fin = [] ∧ x = .agg [.sl N 0 120 c1, .sn] ∧ τ = [.rw ty_int (encInt.row run) c1]))
theorem SchedQ.fr {N : Nat} {ok : Prop} {run fin : List Int} {x : AV} {τ : List AB} (h : SchedQ N ok run fin x τ) : τ.all plainRw = true ∧ freshA N x = true := by
  rcases h with ⟨_, rfl, rfl⟩ | ⟨_, c1, c2, ⟨_, rfl, rfl⟩ | ⟨_, rfl, rfl⟩⟩
  · exact ⟨rfl, rfl⟩
  · simp [plainRw, encInt.row_flat, freshA, fresh1A, freshC]
  · simp [plainRw, encInt.row_flat, freshA, fresh1A, freshC, flat]
end Go.Proofs.Ytmphblbpofnpaaa
