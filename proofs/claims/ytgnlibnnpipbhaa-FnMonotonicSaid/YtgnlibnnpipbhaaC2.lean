import Derived.Test.YtgnlibnnpipbhaaC1
namespace Go.Proofs.Ytgnlibnnpipbhaa
open Go.Abs Go.Ds
set_option linter.unusedSimpArgs false
set_option linter.unusedVariables false
end Go.Proofs.Ytgnlibnnpipbhaa
