import Derived.Test.YtfngcejaphhmmaaC4
namespace Go.Proofs.Ytfngcejaphhmmaa
open Go.Abs Go.Ds
set_option linter.unusedSimpArgs false
set_option linter.unusedVariables false
set_option maxRecDepth 20000
section
variable {S : List Task} {J A : List Int} {i : Int} {v u z : AV} {σ : List AB} {K : AV → List AB → Prop}
end
end Go.Proofs.Ytfngcejaphhmmaa
