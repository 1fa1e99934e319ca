import Derived.Test.YtfngcejaphhmmaaE1
namespace Go.Proofs.Ytfngcejaphhmmaa
open Go.Abs Go.Ds
set_option linter.unusedSimpArgs false
set_option linter.unusedVariables false
set_option maxRecDepth 20000
section
variable {f : Nat} {first caps : List (Nat × Nat)} {σ : List AB} {v : AV} {L : List Job} {K : AV → List AB → Prop}
end
end Go.Proofs.Ytfngcejaphhmmaa
