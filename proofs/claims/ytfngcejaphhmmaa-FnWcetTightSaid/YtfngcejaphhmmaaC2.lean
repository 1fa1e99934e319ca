import Derived.Test.YtfngcejaphhmmaaC1
namespace Go.Proofs.Ytfngcejaphhmmaa
open Go.Abs Go.Ds
set_option linter.unusedSimpArgs false
set_option linter.unusedVariables false
end Go.Proofs.Ytfngcejaphhmmaa
