import Derived.Test.YtdmoafmgeipenaaF2
import Derived.Test.YtdmoafmgeipenaaS8
import Derived.Test.YtdmoafmgeipenaaD4
import Derived.Test.YtdmoafmgeipenaaMM
namespace Go.Proofs.Ytdmoafmgeipenaa
open Go.Abs Go.Ds
set_option linter.unusedSimpArgs false
set_option linter.unusedVariables false
set_option maxRecDepth 20000
theorem Rd.none {α : Type} {E : Enc α} {σ : List AB} (h : 0 < σ.length) : Rd E σ .sn [] := .inr ⟨rfl, rfl, h⟩
theorem edfFin_length (L : List Job) : (edfFin L).length = L.length := (simU_lens 120).2.1
theorem gI_row {l : List Int} {k : Nat} (h : k < l.length) : gI l k = l[k] := by simp [gI, List.getD_eq_getElem?_getD, h]
end Go.Proofs.Ytdmoafmgeipenaa
