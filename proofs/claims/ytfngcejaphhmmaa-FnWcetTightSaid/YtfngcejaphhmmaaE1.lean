import Derived.Test.YtfngcejaphhmmaaAbsY
import Derived.Test.YtfngcejaphhmmaaC4
import Derived.Test.YtfngcejaphhmmaaMM
namespace Go.Proofs.Ytfngcejaphhmmaa
open Go.Abs Go.Ds
set_option linter.unusedSimpArgs false
set_option linter.unusedVariables false
set_option maxRecDepth 20000
def encJob : Enc Job := ⟨fun j => [.i .i64 j.T, .i .i64 j.R, .i .i64 j.D, .i .i64 j.E], 4, fun _ => rfl, fun _ => rfl⟩
theorem Enc_set1 {α : Type} (E : Enc α) (L : List α) (i : Nat) (h : i < L.length) (j : Nat) (hj : j < E.k) (x : AV) (y : α) (hy : (E.f L[i]).set j x = E.f y) : spl (E.row L) (i * E.k + j) [x] = E.row (L.set i y) := by
  have hle : i * E.k + E.k ≤ (E.row L).length := by
    rw [E.row_length]
    have := Nat.mul_le_mul_right E.k (show i + 1 ≤ L.length from h)
    rw [Nat.add_mul, Nat.one_mul] at this
    exact this
  rw [← E.set L i h y, ← hy]
  have hl : ((E.f L[i]).set j x).length = E.k := by rw [List.length_set, E.len]
  apply List.ext_getElem?
  intro m
  rw [spl_get _ _ _ _ (by simp; omega), spl_get _ _ _ _ (by rw [hl]; exact hle), hl]
  have hw := E.win L i h
  by_cases h1 : i * E.k + j = m
  · subst h1
    rw [if_pos (by simp), if_pos (by omega), List.getElem?_set]
    simp [E.len, hj]
  · rw [if_neg (by simp; omega)]
    by_cases h2 : i * E.k ≤ m ∧ m < i * E.k + E.k
    · rw [if_pos h2, List.getElem?_set, if_neg (by omega), ← hw]
      simp only [Abs.win]
      rw [List.getElem?_take, if_pos (by omega), List.getElem?_drop]
      congr 1; omega
    · rw [if_neg h2]
def Ans (P : Program) (f : Nat) (first caps : List (Nat × Nat)) (σ : List AB) (args : List AV) (r : AV) : Prop :=
  ∀ (τ : List AB) (K : AV → List AB → Prop), K r (σ ++ τ) → CallWp P f (pAV first ++ args ++ pAV caps) (σ ++ τ) K
theorem Ans.at {P : Program} {f : Nat} {first caps : List (Nat × Nat)} {σ : List AB} {args : List AV} {r : AV} (h : Ans P f first caps σ args r) {K : AV → List AB → Prop} (hk : K r σ) : CallWp P f (pAV first ++ args ++ pAV caps) σ K := by
  have := h [] K (by simpa using hk)
  simpa using this
/-- A captured variable that holds a slice over a whole block. -/
structure Cap {α : Type} (E : Enc α) (σ : List AB) (x : Nat × Nat) (L : List α) : Prop where
  ex : ∃ cs n c, cellsOf σ x.1 = some cs ∧ x.2 < cs.length ∧ rd cs x.2 = .sl n 0 L.length c ∧ cellsOf σ n = some (E.row L)
theorem Cap.app {α : Type} {E : Enc α} {σ : List AB} {x : Nat × Nat} {L : List α} (h : Cap E σ x L) (τ : List AB) : Cap E (σ ++ τ) x L := by
  obtain ⟨cs, n, c, h1, h2, h3, h4⟩ := h
  exact ⟨cs, n, c, cells_old h1 τ, h2, h3, cells_old h4 τ⟩
end Go.Proofs.Ytfngcejaphhmmaa
