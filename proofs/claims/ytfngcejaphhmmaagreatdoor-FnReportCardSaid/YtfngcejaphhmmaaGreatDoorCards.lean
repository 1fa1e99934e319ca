/-
  DERIVED. GIVEN WITH THE SEED: THE CARDS: each row of YtfngcejaphhmmaaGreatDoorRows.lean that lists a variable, with what it lists TIED to the program's text (the seventh form; the later family's looks); each row that meets fmt, with fmt's text TOLD by the authors' own Lean function (tested against real Go, not proved from fmt's source: count such statements apart). THE CARD IS WHAT COUNTS. Prove the row's statement (the work); the ties are given (YtfngcejaphhmmaaGreatDoorTie.lean); close each card by the builder's one call (the guide's Derived/Test/ToyasCard.lean, 'card_holds'). Laid BY PROGRAM, IN A SANDBOX (cutbox-door.mjs). By AI agents, Wed Nov 11 2026. No macro, syntax, notation, axiom, sorry.
-/
import Derived.Test.YtfngcejaphhmmaaGreatDoorRows
import GoSem.ClaimSeven
namespace Go.Proofs.YtfngcejaphhmmaaGreatDoor
namespace Rows

/-- THE TIED CARD OF 'laws.FnReport'. -/
def fnReportCard : Claim7 := { stood := { row := fnReportRow, standIns := [], harness := (true, "0ff6b404dcf94661150660fe559fb78d56fcd949b18a0f21afbd20c93019c72a"), looks := true }, kinds := [], alts := [], laidByText := true, laidKinds := [.data, .data, .data, .data, .sentinel, .sentinel, .pinned], laidTests := true, laidLooks := .later }
def FnReportCardSaid : Prop := Claim7.holds Tryz.pinned (.plain (OpenSpec.ofChange fnReportSpec)) fnReportCard

/-- THE SECOND FORM's CARD OF 'laws.FnReport'. -/
def fnReportUptoCard : Claim7 := { stood := { row := fnReportUptoRow, standIns := [], harness := (true, "0ff6b404dcf94661150660fe559fb78d56fcd949b18a0f21afbd20c93019c72a"), looks := true }, kinds := [], alts := [], laidByText := true, laidKinds := [.data, .data, .data, .data, .sentinel, .sentinel, .pinned], laidTests := true, laidLooks := .later }
def FnReportUptoCardSaid : Prop := Claim7.holds Tryz.pinned (.plain (OpenSpec.upto fnReportSpec)) fnReportUptoCard
end Rows
end Go.Proofs.YtfngcejaphhmmaaGreatDoor
