import Derived.Test.YtfngcejaphhmmaaS4
import Derived.Test.YtfngcejaphhmmaaMM
namespace Go.Proofs.Ytfngcejaphhmmaa
open Go.Abs Go.Ds
set_option linter.unusedSimpArgs false
set_option linter.unusedVariables false
set_option maxRecDepth 20000
set_option maxHeartbeats 1000000
def MissP (N : Nat) (M : List Int) (x : AV) (τ : List AB) : Prop := (M = [] ∧ x = .sn ∧ τ = []) ∨ (M ≠ [] ∧ ∃ c, x = .sl N 0 M.length M.length ∧ τ = [.rw ty_int (encInt.row M) c])
theorem MissP.fr {N : Nat} {M : List Int} {x : AV} {τ : List AB} (h : MissP N M x τ) : τ.all plainRw = true ∧ freshA N x = true := by
  rcases h with ⟨_, rfl, rfl⟩ | ⟨_, c, rfl, rfl⟩
  · exact ⟨rfl, rfl⟩
  · simp [plainRw, encInt.row_flat, freshA, fresh1A, freshC]
theorem slices_Clip_int_nil {σ : List AB} {K : AV → List AB → Prop} (hk : K .sn σ) : CallWp Try.prog n_slices_Clip_int [.sn] σ K := by
  refine call_slices_Clip_int (by simp) ?_
  simp only [c_slices_Clip_int, go_sem, Int.reduceToNat, List.take_nil, Nat.zero_mul, Nat.reduceEqDiff, Nat.reduceAdd, Nat.reduceLT, Nat.reduceLeDiff, Nat.reduceMul, ↓reduceIte, reduceCtorEq]
  exact ⟨by omega, by omega, Fin.plain hk⟩
theorem slices_Clip_int_ {σ : List AB} {i n c : Nat} {b : AB} (hb : σ[i]? = some b) (hc : n ≤ c) {K : AV → List AB → Prop} (hk : K (.sl i 0 n n) σ) : CallWp Try.prog n_slices_Clip_int [.sl i 0 n c] σ K := by
  refine call_slices_Clip_int (by simp) ?_
  simp only [c_slices_Clip_int, go_sem, Int.reduceToNat, List.take_nil, Nat.zero_mul, Nat.reduceEqDiff, Nat.reduceAdd, Nat.reduceLT, Nat.reduceLeDiff, Nat.reduceMul, ↓reduceIte, reduceCtorEq]
  exact ⟨⟨.inl (Nat.le_refl _), hc⟩, Fin.plain hk⟩
section
variable {L : List Job} {fin : List Int} {v u x : AV} {σ : List AB} {K : AV → List AB → Prop}
end
end Go.Proofs.Ytfngcejaphhmmaa
