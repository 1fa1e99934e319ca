/-
  No cell of these rows narrows 'for every input' (looked for: loops, veiled, ifaces, maps, wideKeys, modest, calm, conditions, laid).
  DERIVED. THE GIVEN ROWS OF THIS SEAT. 6 by the template 'for every input the law returns true; each argument reads behind the call as it read before'; 0 by the template 'total and deterministic' (their statements: YtklidlannicomaaTotals.lean).
  GIVEN WITH THE SEED: the statements are not yours to turn. If you find one false, say at which input.
  Laid BY PROGRAM, IN A SANDBOX (cutbox-rows.mjs): the forced cells as the released guide's own fill.sh prints them over the translation 1c48302ad982ebde… (all of the seat's roots in one cut). By AI agents, Wed Nov 11 2026. No macro, syntax, notation, axiom, sorry.
-/
import Derived.Test.YtklidlannicomaaChecked
import GoSem.Claim
import GoSem.ClaimJoined
import GoSem.ClaimMapViews
import Derived.JoinedTies
import Derived.KernelRfl
namespace Go.Proofs.Ytklidlannicomaa
/- THE CELL 'sum', in the pinned program and in every row, IS THE sha256 OF THE DUMP (.gsa) THAT YtklidlannicomaaProg.lean LOADS. Nothing in Lean hashes anything: it is a label: what it is worth is what the hold of that sum in a sandbox is worth. -/
noncomputable def Try.pinned : Pinned := { name := "ytklidlannicomaa", sum := "1c48302ad982ebde2eb08ee266f0c714272fcf08f6244d6df65e51d75a5bae45", checked := Try.checked }
namespace Rows
def none {H : Type} : Left H := { results := [], args := [] }

/-- 'laws.FnExactJitterValid': WHATEVER THE INPUT: true; the input reads as it did. -/
def fnExactJitterValidSpec : ChangeSpec := { name := "fnExactJitterValid", fn := fun _ => fun
  | [d1, d2] => { results := [.lit (.bool true)], args := [d1, d2] }
  | _ => none }
def fnExactJitterValidRow : OpenClaim := { program := "ytklidlannicomaa", sum := "1c48302ad982ebde2eb08ee266f0c714272fcf08f6244d6df65e51d75a5bae45", func := "loop.example/deadlinescheduler/laws.FnExactJitterValid", spec := "fnExactJitterValid", unfollowed := true, recurses := true, apart := false }
def FnExactJitterValidSaid : Prop := fnExactJitterValidRow.holds Try.pinned (OpenSpec.ofChange fnExactJitterValidSpec)

/-- ITS FALSE NEIGHBOUR: 'it returns false'. Refute it at one input. -/
def fnExactJitterValidWrong : ChangeSpec := { name := "fnExactJitterValid", fn := fun _ => fun
  | [d1, d2] => { results := [.lit (.bool false)], args := [d1, d2] }
  | _ => none }
def FnExactJitterValidWrongFalsely : Prop := fnExactJitterValidRow.holds Try.pinned (OpenSpec.ofChange fnExactJitterValidWrong)

/-- 'laws.FnJitterValid': WHATEVER THE INPUT: true; the input reads as it did. -/
def fnJitterValidSpec : ChangeSpec := { name := "fnJitterValid", fn := fun _ => fun
  | [d] => { results := [.lit (.bool true)], args := [d] }
  | _ => none }
def fnJitterValidRow : OpenClaim := { program := "ytklidlannicomaa", sum := "1c48302ad982ebde2eb08ee266f0c714272fcf08f6244d6df65e51d75a5bae45", func := "loop.example/deadlinescheduler/laws.FnJitterValid", spec := "fnJitterValid", unfollowed := true, recurses := true, apart := false }
def FnJitterValidSaid : Prop := fnJitterValidRow.holds Try.pinned (OpenSpec.ofChange fnJitterValidSpec)

/-- ITS FALSE NEIGHBOUR: 'it returns false'. Refute it at one input. -/
def fnJitterValidWrong : ChangeSpec := { name := "fnJitterValid", fn := fun _ => fun
  | [d] => { results := [.lit (.bool false)], args := [d] }
  | _ => none }
def FnJitterValidWrongFalsely : Prop := fnJitterValidRow.holds Try.pinned (OpenSpec.ofChange fnJitterValidWrong)

/-- 'laws.FnExactJitterLegal': WHATEVER THE INPUT: true; the input reads as it did. -/
def fnExactJitterLegalSpec : ChangeSpec := { name := "fnExactJitterLegal", fn := fun _ => fun
  | [d1, d2, d3] => { results := [.lit (.bool true)], args := [d1, d2, d3] }
  | _ => none }
def fnExactJitterLegalRow : OpenClaim := { program := "ytklidlannicomaa", sum := "1c48302ad982ebde2eb08ee266f0c714272fcf08f6244d6df65e51d75a5bae45", func := "loop.example/deadlinescheduler/laws.FnExactJitterLegal", spec := "fnExactJitterLegal", unfollowed := true, recurses := true, apart := false }
def FnExactJitterLegalSaid : Prop := fnExactJitterLegalRow.holds Try.pinned (OpenSpec.ofChange fnExactJitterLegalSpec)

/-- ITS FALSE NEIGHBOUR: 'it returns false'. Refute it at one input. -/
def fnExactJitterLegalWrong : ChangeSpec := { name := "fnExactJitterLegal", fn := fun _ => fun
  | [d1, d2, d3] => { results := [.lit (.bool false)], args := [d1, d2, d3] }
  | _ => none }
def FnExactJitterLegalWrongFalsely : Prop := fnExactJitterLegalRow.holds Try.pinned (OpenSpec.ofChange fnExactJitterLegalWrong)

/-- 'laws.FnExactJitterResponse': WHATEVER THE INPUT: true; the input reads as it did. -/
def fnExactJitterResponseSpec : ChangeSpec := { name := "fnExactJitterResponse", fn := fun _ => fun
  | [d1, d2, d3] => { results := [.lit (.bool true)], args := [d1, d2, d3] }
  | _ => none }
def fnExactJitterResponseRow : OpenClaim := { program := "ytklidlannicomaa", sum := "1c48302ad982ebde2eb08ee266f0c714272fcf08f6244d6df65e51d75a5bae45", func := "loop.example/deadlinescheduler/laws.FnExactJitterResponse", spec := "fnExactJitterResponse", unfollowed := true, recurses := true, apart := false }
def FnExactJitterResponseSaid : Prop := fnExactJitterResponseRow.holds Try.pinned (OpenSpec.ofChange fnExactJitterResponseSpec)

/-- ITS FALSE NEIGHBOUR: 'it returns false'. Refute it at one input. -/
def fnExactJitterResponseWrong : ChangeSpec := { name := "fnExactJitterResponse", fn := fun _ => fun
  | [d1, d2, d3] => { results := [.lit (.bool false)], args := [d1, d2, d3] }
  | _ => none }
def FnExactJitterResponseWrongFalsely : Prop := fnExactJitterResponseRow.holds Try.pinned (OpenSpec.ofChange fnExactJitterResponseWrong)

/-- 'laws.FnJitterResponse': WHATEVER THE INPUT: true; the input reads as it did. -/
def fnJitterResponseSpec : ChangeSpec := { name := "fnJitterResponse", fn := fun _ => fun
  | [d] => { results := [.lit (.bool true)], args := [d] }
  | _ => none }
def fnJitterResponseRow : OpenClaim := { program := "ytklidlannicomaa", sum := "1c48302ad982ebde2eb08ee266f0c714272fcf08f6244d6df65e51d75a5bae45", func := "loop.example/deadlinescheduler/laws.FnJitterResponse", spec := "fnJitterResponse", unfollowed := true, recurses := true, apart := false }
def FnJitterResponseSaid : Prop := fnJitterResponseRow.holds Try.pinned (OpenSpec.ofChange fnJitterResponseSpec)

/-- ITS FALSE NEIGHBOUR: 'it returns false'. Refute it at one input. -/
def fnJitterResponseWrong : ChangeSpec := { name := "fnJitterResponse", fn := fun _ => fun
  | [d] => { results := [.lit (.bool false)], args := [d] }
  | _ => none }
def FnJitterResponseWrongFalsely : Prop := fnJitterResponseRow.holds Try.pinned (OpenSpec.ofChange fnJitterResponseWrong)

/-- 'laws.FnJitterLegal': WHATEVER THE INPUT: true; the input reads as it did. -/
def fnJitterLegalSpec : ChangeSpec := { name := "fnJitterLegal", fn := fun _ => fun
  | [d] => { results := [.lit (.bool true)], args := [d] }
  | _ => none }
def fnJitterLegalRow : OpenClaim := { program := "ytklidlannicomaa", sum := "1c48302ad982ebde2eb08ee266f0c714272fcf08f6244d6df65e51d75a5bae45", func := "loop.example/deadlinescheduler/laws.FnJitterLegal", spec := "fnJitterLegal", unfollowed := true, recurses := true, apart := false }
def FnJitterLegalSaid : Prop := fnJitterLegalRow.holds Try.pinned (OpenSpec.ofChange fnJitterLegalSpec)

/-- ITS FALSE NEIGHBOUR: 'it returns false'. Refute it at one input. -/
def fnJitterLegalWrong : ChangeSpec := { name := "fnJitterLegal", fn := fun _ => fun
  | [d] => { results := [.lit (.bool false)], args := [d] }
  | _ => none }
def FnJitterLegalWrongFalsely : Prop := fnJitterLegalRow.holds Try.pinned (OpenSpec.ofChange fnJitterLegalWrong)

/- THE SECOND FORM. 'bulk': how many values and letters a reading holds, each counted each time it is reached (what is shared counts as often as it is met; a slice's spare places count too). A statement '..UptoSaid' is the law's where the arguments, and the package variables that the reading takes, are together of bulk at most 1048576: NARROWER than '..Said'. Prove '..Said' where nothing that the law and all that it calls make is longer than what came in: it says more and counts as full. Else prove '..UptoSaid'. A law counts once. -/
mutual
def uptoBulk {H : Type} : DataW H → Nat
  | .lit (.string bytes) => bytes.length + 1
  | .lit _ => 1
  | .nil => 1
  | .ptr d => uptoBulk d + 1
  | .slice elems spare => uptoBulkAll elems + uptoBulkAll spare + 1
  | .agg parts => uptoBulkAll parts + 1
  | .iface _ d => uptoBulk d + 1
  | .map entries => uptoBulkEntries entries + 1
  | .held _ => 1
def uptoBulkAll {H : Type} : List (DataW H) → Nat
  | [] => 0
  | d :: r => uptoBulk d + uptoBulkAll r
def uptoBulkEntries {H : Type} : List (Lit × DataW H) → Nat
  | [] => 0
  | x :: r => uptoBulkEntry x + uptoBulkEntries r
def uptoBulkEntry {H : Type} : Lit × DataW H → Nat
  | (.string bytes, d) => bytes.length + uptoBulk d + 1
  | (_, d) => uptoBulk d + 1
 end
def uptoSmall : (H : Type) → List (DataW H) → Bool := fun _ ds => decide (uptoBulkAll ds ≤ 1048576)
def OpenSpec.upto (s : _root_.Go.ChangeSpec) : _root_.Go.OpenSpec := { _root_.Go.OpenSpec.ofChange s with cond := some uptoSmall }

/-- 'laws.FnExactJitterValid', WHERE WHAT IT READS IS OF BULK AT MOST 1048576: true; the input reads as it did. -/
def fnExactJitterValidUptoRow : OpenClaim := { program := "ytklidlannicomaa", sum := "1c48302ad982ebde2eb08ee266f0c714272fcf08f6244d6df65e51d75a5bae45", func := "loop.example/deadlinescheduler/laws.FnExactJitterValid", spec := "fnExactJitterValid", unfollowed := true, recurses := true, apart := false, narrowed := true }
def FnExactJitterValidUptoSaid : Prop := fnExactJitterValidUptoRow.holds Try.pinned (OpenSpec.upto fnExactJitterValidSpec)

/-- 'laws.FnJitterValid', WHERE WHAT IT READS IS OF BULK AT MOST 1048576: true; the input reads as it did. -/
def fnJitterValidUptoRow : OpenClaim := { program := "ytklidlannicomaa", sum := "1c48302ad982ebde2eb08ee266f0c714272fcf08f6244d6df65e51d75a5bae45", func := "loop.example/deadlinescheduler/laws.FnJitterValid", spec := "fnJitterValid", unfollowed := true, recurses := true, apart := false, narrowed := true }
def FnJitterValidUptoSaid : Prop := fnJitterValidUptoRow.holds Try.pinned (OpenSpec.upto fnJitterValidSpec)

/-- 'laws.FnExactJitterLegal', WHERE WHAT IT READS IS OF BULK AT MOST 1048576: true; the input reads as it did. -/
def fnExactJitterLegalUptoRow : OpenClaim := { program := "ytklidlannicomaa", sum := "1c48302ad982ebde2eb08ee266f0c714272fcf08f6244d6df65e51d75a5bae45", func := "loop.example/deadlinescheduler/laws.FnExactJitterLegal", spec := "fnExactJitterLegal", unfollowed := true, recurses := true, apart := false, narrowed := true }
def FnExactJitterLegalUptoSaid : Prop := fnExactJitterLegalUptoRow.holds Try.pinned (OpenSpec.upto fnExactJitterLegalSpec)

/-- 'laws.FnExactJitterResponse', WHERE WHAT IT READS IS OF BULK AT MOST 1048576: true; the input reads as it did. -/
def fnExactJitterResponseUptoRow : OpenClaim := { program := "ytklidlannicomaa", sum := "1c48302ad982ebde2eb08ee266f0c714272fcf08f6244d6df65e51d75a5bae45", func := "loop.example/deadlinescheduler/laws.FnExactJitterResponse", spec := "fnExactJitterResponse", unfollowed := true, recurses := true, apart := false, narrowed := true }
def FnExactJitterResponseUptoSaid : Prop := fnExactJitterResponseUptoRow.holds Try.pinned (OpenSpec.upto fnExactJitterResponseSpec)

/-- 'laws.FnJitterResponse', WHERE WHAT IT READS IS OF BULK AT MOST 1048576: true; the input reads as it did. -/
def fnJitterResponseUptoRow : OpenClaim := { program := "ytklidlannicomaa", sum := "1c48302ad982ebde2eb08ee266f0c714272fcf08f6244d6df65e51d75a5bae45", func := "loop.example/deadlinescheduler/laws.FnJitterResponse", spec := "fnJitterResponse", unfollowed := true, recurses := true, apart := false, narrowed := true }
def FnJitterResponseUptoSaid : Prop := fnJitterResponseUptoRow.holds Try.pinned (OpenSpec.upto fnJitterResponseSpec)

/-- 'laws.FnJitterLegal', WHERE WHAT IT READS IS OF BULK AT MOST 1048576: true; the input reads as it did. -/
def fnJitterLegalUptoRow : OpenClaim := { program := "ytklidlannicomaa", sum := "1c48302ad982ebde2eb08ee266f0c714272fcf08f6244d6df65e51d75a5bae45", func := "loop.example/deadlinescheduler/laws.FnJitterLegal", spec := "fnJitterLegal", unfollowed := true, recurses := true, apart := false, narrowed := true }
def FnJitterLegalUptoSaid : Prop := fnJitterLegalUptoRow.holds Try.pinned (OpenSpec.upto fnJitterLegalSpec)

end Rows
end Go.Proofs.Ytklidlannicomaa
