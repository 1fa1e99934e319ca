import Derived.Test.YtmphblbpofnpaaaD2
import Derived.Test.YtmphblbpofnpaaaE1
namespace Go.Proofs.Ytmphblbpofnpaaa
open Go.Abs Go.Ds
set_option linter.unusedSimpArgs false
set_option linter.unusedVariables false
set_option maxRecDepth 20000
def wildJ (j : Job) : Prop := (-1 ≤ j.T ∧ j.T ≤ 20) ∧ (-1 ≤ j.R ∧ j.R ≤ 200) ∧ (-1 ≤ j.D ∧ j.D ≤ 300) ∧ (0 ≤ j.E ∧ j.E ≤ 20)
def wild0 (S : List Task) (j : Job) : Prop := ((0 ≤ j.T ∧ j.T ≤ 5) ∧ (0 ≤ j.R ∧ j.R ≤ 100) ∧ (0 ≤ j.D ∧ j.D ≤ 120) ∧ (1 ≤ j.E ∧ j.E ≤ 8)) ∧ j.T < S.length ∧ j.E ≤ (gT S j.T).C
theorem wild0.wild {S : List Task} {j : Job} (h : wild0 S j) : wildJ j := by unfold wild0 at h; unfold wildJ; omega
end Go.Proofs.Ytmphblbpofnpaaa
