import Derived.Test.YtnlciginmeebhaaC1
namespace Go.Proofs.Ytnlciginmeebhaa
open Go.Abs Go.Ds
set_option linter.unusedSimpArgs false
set_option linter.unusedVariables false
end Go.Proofs.Ytnlciginmeebhaa
