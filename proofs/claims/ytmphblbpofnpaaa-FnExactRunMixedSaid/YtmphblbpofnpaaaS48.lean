import Derived.Test.YtmphblbpofnpaaaSX
import Derived.Test.YtmphblbpofnpaaaF2
import Derived.Test.YtmphblbpofnpaaaD4
namespace Go.Proofs.Ytmphblbpofnpaaa
open Go.Abs Go.Ds
set_option linter.unusedSimpArgs false
set_option linter.unusedVariables false
set_option maxRecDepth 20000
set_option maxHeartbeats 4000000
end Go.Proofs.Ytmphblbpofnpaaa
