/-
  DERIVED. GIVEN WITH THE SEED: THE CARDS: each row of YtfngcejaphhmmaaDoorRows.lean that lists a variable, with what it lists TIED to the program's text (the seventh form; the later family's looks); each row that meets fmt, with fmt's text TOLD by the authors' own Lean function (tested against real Go, not proved from fmt's source: count such statements apart). THE CARD IS WHAT COUNTS. Prove the row's statement (the work); the ties are given (YtfngcejaphhmmaaDoorTie.lean); close each card by the builder's one call (the guide's Derived/Test/ToyasCard.lean, 'card_holds'). Laid BY PROGRAM, IN A SANDBOX (cutbox-door.mjs). By AI agents, Wed Nov 11 2026. No macro, syntax, notation, axiom, sorry.
-/
import Derived.Test.YtfngcejaphhmmaaDoorRows
import GoSem.ClaimSeven
namespace Go.Proofs.YtfngcejaphhmmaaDoor
namespace Rows

/-- THE TIED CARD OF 'laws.FnFormatTask'. -/
def fnFormatTaskCard : Claim7 := { stood := { row := fnFormatTaskRow, standIns := [], harness := (true, "346c74736a3e587e5065a60c3eb117f6b7ad0800df2a6149c751affcc0a657a5"), looks := true }, kinds := [], alts := [], laidByText := true, laidKinds := [.data, .data, .data, .data, .sentinel, .sentinel, .pinned], laidTests := true, laidLooks := .later }
def FnFormatTaskCardSaid : Prop := Claim7.holds Tryd.pinned (.plain (OpenSpec.ofChange fnFormatTaskSpec)) fnFormatTaskCard

/-- THE SECOND FORM's CARD OF 'laws.FnFormatTask'. -/
def fnFormatTaskUptoCard : Claim7 := { stood := { row := fnFormatTaskUptoRow, standIns := [], harness := (true, "346c74736a3e587e5065a60c3eb117f6b7ad0800df2a6149c751affcc0a657a5"), looks := true }, kinds := [], alts := [], laidByText := true, laidKinds := [.data, .data, .data, .data, .sentinel, .sentinel, .pinned], laidTests := true, laidLooks := .later }
def FnFormatTaskUptoCardSaid : Prop := Claim7.holds Tryd.pinned (.plain (OpenSpec.upto fnFormatTaskSpec)) fnFormatTaskUptoCard
end Rows
end Go.Proofs.YtfngcejaphhmmaaDoor
