import Derived.Test.YtdmoafmgeipenaaC1
namespace Go.Proofs.Ytdmoafmgeipenaa
open Go.Abs Go.Ds
set_option linter.unusedSimpArgs false
set_option linter.unusedVariables false
end Go.Proofs.Ytdmoafmgeipenaa
