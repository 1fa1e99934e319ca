import Derived.Test.YtdmoafmgeipenaaC6
import Derived.Test.YtdmoafmgeipenaaMM
namespace Go.Proofs.Ytdmoafmgeipenaa
open Go.Abs Go.Ds
set_option linter.unusedSimpArgs false
set_option linter.unusedVariables false
set_option maxRecDepth 20000
section
variable {S : List Task} {O : List Int} {v z : AV} {σ : List AB} {K : AV → List AB → Prop}
end
end Go.Proofs.Ytdmoafmgeipenaa
