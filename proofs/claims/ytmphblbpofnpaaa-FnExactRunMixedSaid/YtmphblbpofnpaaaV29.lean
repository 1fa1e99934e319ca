import Derived.Test.YtmphblbpofnpaaaS49
import Derived.Test.YtmphblbpofnpaaaS47
import Derived.Test.YtmphblbpofnpaaaMX
import Derived.Test.YtmphblbpofnpaaaE7
import Derived.Test.YtmphblbpofnpaaaD4
import Derived.Test.YtmphblbpofnpaaaV1
namespace Go.Proofs.Ytmphblbpofnpaaa
open Go.Abs Go.Ds
set_option linter.unusedSimpArgs false
set_option linter.unusedVariables false
set_option maxRecDepth 20000
set_option maxHeartbeats 4000000
theorem scale_any (S : List MTask) : ∃ nu de, scaleR S = some (nu, de) ∨ scaleR S = none := by
  cases h : scaleR S with
  | none => exact ⟨0, 0, .inr rfl⟩
  | some p => exact ⟨p.1, p.2, .inl rfl⟩
end Go.Proofs.Ytmphblbpofnpaaa
