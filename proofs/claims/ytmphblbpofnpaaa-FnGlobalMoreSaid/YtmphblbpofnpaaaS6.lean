import Derived.Test.YtmphblbpofnpaaaS4
import Derived.Test.YtmphblbpofnpaaaE7
namespace Go.Proofs.Ytmphblbpofnpaaa
open Go.Abs Go.Ds
set_option linter.unusedSimpArgs false
set_option linter.unusedVariables false
set_option maxRecDepth 20000
end Go.Proofs.Ytmphblbpofnpaaa
