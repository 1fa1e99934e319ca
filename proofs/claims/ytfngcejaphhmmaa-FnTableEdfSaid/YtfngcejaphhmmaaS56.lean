import Derived.Test.YtfngcejaphhmmaaS54
namespace Go.Proofs.Ytfngcejaphhmmaa
open Go.Abs Go.Ds
set_option linter.unusedSimpArgs false
set_option linter.unusedVariables false
set_option maxRecDepth 20000
set_option maxHeartbeats 4000000
theorem tab_feas {S : List Task} (h : tabOk S) : ∀ t : Nat, dbf S t ≤ t := dbf_fits h.1.1 (hyperN_hyper h.1.1) h.1.2
end Go.Proofs.Ytfngcejaphhmmaa
