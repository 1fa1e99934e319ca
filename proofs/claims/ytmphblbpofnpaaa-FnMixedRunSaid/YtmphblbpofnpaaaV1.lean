import Derived.Test.YtmphblbpofnpaaaF2
import Derived.Test.YtmphblbpofnpaaaS8
import Derived.Test.YtmphblbpofnpaaaD4
import Derived.Test.YtmphblbpofnpaaaMM
namespace Go.Proofs.Ytmphblbpofnpaaa
open Go.Abs Go.Ds
set_option linter.unusedSimpArgs false
set_option linter.unusedVariables false
set_option maxRecDepth 20000
theorem Rd.none {α : Type} {E : Enc α} {σ : List AB} (h : 0 < σ.length) : Rd E σ .sn [] := .inr ⟨rfl, rfl, h⟩
theorem edfRun_length (L : List Job) : (edfRun L).length = 120 := (simU_lens 120).2.2
theorem edfFin_length (L : List Job) : (edfFin L).length = L.length := (simU_lens 120).2.1
end Go.Proofs.Ytmphblbpofnpaaa
