import Derived.Test.YtdmoafmgeipenaaC5
namespace Go.Proofs.Ytdmoafmgeipenaa
open Go.Abs Go.Ds
set_option linter.unusedSimpArgs false
set_option linter.unusedVariables false
set_option maxRecDepth 20000
section
variable {S : List Task} {J O : List Int} {v u z : AV} {σ : List AB} {K : AV → List AB → Prop}
end
section
variable {S : List Task} {J O : List Int} {v u z : AV} {σ : List AB} {K : AV → List AB → Prop}
end
end Go.Proofs.Ytdmoafmgeipenaa
