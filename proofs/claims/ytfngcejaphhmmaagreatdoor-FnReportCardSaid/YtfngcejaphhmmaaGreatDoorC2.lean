import Derived.Test.YtfngcejaphhmmaaGreatDoorC1
namespace Go.Proofs.YtfngcejaphhmmaaGreatDoor
open Go.Abs Go.Ds
set_option linter.unusedSimpArgs false
set_option linter.unusedVariables false
end Go.Proofs.YtfngcejaphhmmaaGreatDoor
