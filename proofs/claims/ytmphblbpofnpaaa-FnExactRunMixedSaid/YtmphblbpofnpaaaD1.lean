import Derived.Test.YtmphblbpofnpaaaAbsY
import Derived.Test.YtmphblbpofnpaaaC1
namespace Go.Proofs.Ytmphblbpofnpaaa
open Go.Abs Go.Ds
set_option linter.unusedSimpArgs false
set_option linter.unusedVariables false
set_option maxRecDepth 20000
theorem lenB (L : List Nat) : (encByte.row L).length = L.length := by simpa [encByte] using encByte.row_length L
abbrev rdr (B : List Nat) (c : Nat) (p : Int) : List AB := [.ro (encByte.row B), .rw ty_spec_l20Rd [.sl 0 0 B.length c, .i .i64 p] 2]
structure Code (B : List Nat) : Prop where
  len : B.length ≤ 2000
  byte : ∀ x ∈ B, x < 256
theorem Rdr.of {B : List Nat} {c : Nat} {p : Int} {τ : List AB} : Rdr ty_spec_l20Rd (rdr B c p ++ τ) 1 B p 0 0 c := by
  refine ⟨rfl, by decide, encByte.row B, rfl, by rw [lenB]; omega, ?_⟩
  rw [← lenB B]; simp [Abs.win]
end Go.Proofs.Ytmphblbpofnpaaa
