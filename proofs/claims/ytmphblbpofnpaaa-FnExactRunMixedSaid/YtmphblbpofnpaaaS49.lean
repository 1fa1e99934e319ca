import Derived.Test.YtmphblbpofnpaaaS48
import Derived.Test.YtmphblbpofnpaaaSX
namespace Go.Proofs.Ytmphblbpofnpaaa
open Go.Abs Go.Ds
set_option linter.unusedSimpArgs false
set_option linter.unusedVariables false
set_option maxRecDepth 20000
set_option maxHeartbeats 4000000
def lowJ (S : List MTask) (j : Job) : Prop := (0 ≤ j.T ∧ j.T < S.length) ∧ 1 ≤ j.E ∧ j.E ≤ (gM S j.T).Lo
structure MJ (S : List MTask) (low : Bool) (n : Int) (k : Nat) (M : List Job) : Prop where
  len : M.length ≤ 62
  wild : ∀ i (h : i < M.length), k ≤ i → wildJ M[i]
  fresh : n ≤ 0 → ∀ i (h : i < M.length), k ≤ i → (0 ≤ M[i].T ∧ M[i].T < S.length) ∧ M[i].E = 1
  done : low = true → n ≤ 0 → ∀ i (h : i < M.length), i < k → lowJ S M[i]
theorem MJ.skip {S : List MTask} {low : Bool} {n : Int} {k : Nat} {M : List Job} (h : MJ S low n k M) (hk : k < M.length) (hb : ¬ ((0 ≤ M[k].T ∧ M[k].T < S.length) ∧ M[k].E = 1)) : MJ S low n (k + 1) M :=
  ⟨h.len, fun i hi hki => h.wild i hi (by omega), fun hn i hi hki => h.fresh hn i hi (by omega), fun hl hn i hi hik => by
    by_cases e : i = k
    · subst e; exact absurd (h.fresh hn i hi (Nat.le_refl _)) hb
    · exact h.done hl hn i hi (by omega)⟩
theorem MJ.put {S : List MTask} {low : Bool} {n : Int} {k : Nat} {M : List Job} (h : MJ S low n k M) (hk : k < M.length) (e : Int) (hg : low = true → lowJ S ⟨M[k].T, M[k].R, M[k].D, e⟩) : MJ S low n (k + 1) (M.set k ⟨M[k].T, M[k].R, M[k].D, e⟩) := by
  refine ⟨by rw [List.length_set]; exact h.len, fun i hi hki => ?_, fun hn i hi hki => ?_, fun hl hn i hi hik => ?_⟩
  · rw [List.length_set] at hi
    rw [List.getElem_set_ne (by omega)]; exact h.wild i hi (by omega)
  · rw [List.length_set] at hi
    rw [List.getElem_set_ne (by omega)]; exact h.fresh hn i hi (by omega)
  · rw [List.length_set] at hi
    by_cases e : k = i
    · subst e; rw [List.getElem_set_self]; exact hg hl
    · rw [List.getElem_set_ne e]; exact h.done hl hn i hi (by omega)
end Go.Proofs.Ytmphblbpofnpaaa
