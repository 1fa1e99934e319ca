/-
  No cell of these rows narrows 'for every input' (looked for: loops, veiled, ifaces, maps, wideKeys, modest, calm, conditions, laid).
  DERIVED. THE GIVEN ROWS OF THIS SEAT. 8 by the template 'for every input the law returns true; each argument reads behind the call as it read before'; 0 by the template 'total and deterministic' (their statements: YtfngcejaphhmmaaTotals.lean).
  GIVEN WITH THE SEED: the statements are not yours to turn. If you find one false, say at which input.
  Laid BY PROGRAM, IN A SANDBOX (cutbox-rows.mjs): the forced cells as the released guide's own fill.sh prints them over the translation 5ab5a6cf721b8cb4… (all of the seat's roots in one cut). By AI agents, Wed Nov 11 2026. No macro, syntax, notation, axiom, sorry.
-/
import Derived.Test.YtfngcejaphhmmaaChecked
import GoSem.Claim
import GoSem.ClaimJoined
import GoSem.ClaimMapViews
import Derived.JoinedTies
import Derived.KernelRfl
namespace Go.Proofs.Ytfngcejaphhmmaa
/- THE CELL 'sum', in the pinned program and in every row, IS THE sha256 OF THE DUMP (.gsa) THAT YtfngcejaphhmmaaProg.lean LOADS. Nothing in Lean hashes anything: it is a label: what it is worth is what the hold of that sum in a sandbox is worth. -/
noncomputable def Try.pinned : Pinned := { name := "ytfngcejaphhmmaa", sum := "5ab5a6cf721b8cb4d96779fd53e179212d3a3c9097b35de05f8618bb038e17ca", checked := Try.checked }
namespace Rows
def none {H : Type} : Left H := { results := [], args := [] }

/-- 'laws.FnTable': WHATEVER THE INPUT: true; the input reads as it did. -/
def fnTableSpec : ChangeSpec := { name := "fnTable", fn := fun _ => fun
  | [d] => { results := [.lit (.bool true)], args := [d] }
  | _ => none }
def fnTableRow : OpenClaim := { program := "ytfngcejaphhmmaa", sum := "5ab5a6cf721b8cb4d96779fd53e179212d3a3c9097b35de05f8618bb038e17ca", func := "loop.example/deadlinescheduler/laws.FnTable", spec := "fnTable", unfollowed := true, recurses := true, apart := false }
def FnTableSaid : Prop := fnTableRow.holds Try.pinned (OpenSpec.ofChange fnTableSpec)

/-- ITS FALSE NEIGHBOUR: 'it returns false'. Refute it at one input. -/
def fnTableWrong : ChangeSpec := { name := "fnTable", fn := fun _ => fun
  | [d] => { results := [.lit (.bool false)], args := [d] }
  | _ => none }
def FnTableWrongFalsely : Prop := fnTableRow.holds Try.pinned (OpenSpec.ofChange fnTableWrong)

/-- 'laws.FnTableEdf': WHATEVER THE INPUT: true; the input reads as it did. -/
def fnTableEdfSpec : ChangeSpec := { name := "fnTableEdf", fn := fun _ => fun
  | [d] => { results := [.lit (.bool true)], args := [d] }
  | _ => none }
def fnTableEdfRow : OpenClaim := { program := "ytfngcejaphhmmaa", sum := "5ab5a6cf721b8cb4d96779fd53e179212d3a3c9097b35de05f8618bb038e17ca", func := "loop.example/deadlinescheduler/laws.FnTableEdf", spec := "fnTableEdf", unfollowed := true, recurses := true, apart := false }
def FnTableEdfSaid : Prop := fnTableEdfRow.holds Try.pinned (OpenSpec.ofChange fnTableEdfSpec)

/-- ITS FALSE NEIGHBOUR: 'it returns false'. Refute it at one input. -/
def fnTableEdfWrong : ChangeSpec := { name := "fnTableEdf", fn := fun _ => fun
  | [d] => { results := [.lit (.bool false)], args := [d] }
  | _ => none }
def FnTableEdfWrongFalsely : Prop := fnTableEdfRow.holds Try.pinned (OpenSpec.ofChange fnTableEdfWrong)

/-- 'laws.FnFirstFit': WHATEVER THE INPUT: true; the input reads as it did. -/
def fnFirstFitSpec : ChangeSpec := { name := "fnFirstFit", fn := fun _ => fun
  | [d] => { results := [.lit (.bool true)], args := [d] }
  | _ => none }
def fnFirstFitRow : OpenClaim := { program := "ytfngcejaphhmmaa", sum := "5ab5a6cf721b8cb4d96779fd53e179212d3a3c9097b35de05f8618bb038e17ca", func := "loop.example/deadlinescheduler/laws.FnFirstFit", spec := "fnFirstFit", unfollowed := true, recurses := true, apart := false }
def FnFirstFitSaid : Prop := fnFirstFitRow.holds Try.pinned (OpenSpec.ofChange fnFirstFitSpec)

/-- ITS FALSE NEIGHBOUR: 'it returns false'. Refute it at one input. -/
def fnFirstFitWrong : ChangeSpec := { name := "fnFirstFit", fn := fun _ => fun
  | [d] => { results := [.lit (.bool false)], args := [d] }
  | _ => none }
def FnFirstFitWrongFalsely : Prop := fnFirstFitRow.holds Try.pinned (OpenSpec.ofChange fnFirstFitWrong)

/-- 'laws.FnMinCores': WHATEVER THE INPUT: true; the input reads as it did. -/
def fnMinCoresSpec : ChangeSpec := { name := "fnMinCores", fn := fun _ => fun
  | [d] => { results := [.lit (.bool true)], args := [d] }
  | _ => none }
def fnMinCoresRow : OpenClaim := { program := "ytfngcejaphhmmaa", sum := "5ab5a6cf721b8cb4d96779fd53e179212d3a3c9097b35de05f8618bb038e17ca", func := "loop.example/deadlinescheduler/laws.FnMinCores", spec := "fnMinCores", unfollowed := true, recurses := true, apart := false }
def FnMinCoresSaid : Prop := fnMinCoresRow.holds Try.pinned (OpenSpec.ofChange fnMinCoresSpec)

/-- ITS FALSE NEIGHBOUR: 'it returns false'. Refute it at one input. -/
def fnMinCoresWrong : ChangeSpec := { name := "fnMinCores", fn := fun _ => fun
  | [d] => { results := [.lit (.bool false)], args := [d] }
  | _ => none }
def FnMinCoresWrongFalsely : Prop := fnMinCoresRow.holds Try.pinned (OpenSpec.ofChange fnMinCoresWrong)

/-- 'laws.FnMoreCores': WHATEVER THE INPUT: true; the input reads as it did. -/
def fnMoreCoresSpec : ChangeSpec := { name := "fnMoreCores", fn := fun _ => fun
  | [d] => { results := [.lit (.bool true)], args := [d] }
  | _ => none }
def fnMoreCoresRow : OpenClaim := { program := "ytfngcejaphhmmaa", sum := "5ab5a6cf721b8cb4d96779fd53e179212d3a3c9097b35de05f8618bb038e17ca", func := "loop.example/deadlinescheduler/laws.FnMoreCores", spec := "fnMoreCores", unfollowed := true, recurses := true, apart := false }
def FnMoreCoresSaid : Prop := fnMoreCoresRow.holds Try.pinned (OpenSpec.ofChange fnMoreCoresSpec)

/-- ITS FALSE NEIGHBOUR: 'it returns false'. Refute it at one input. -/
def fnMoreCoresWrong : ChangeSpec := { name := "fnMoreCores", fn := fun _ => fun
  | [d] => { results := [.lit (.bool false)], args := [d] }
  | _ => none }
def FnMoreCoresWrongFalsely : Prop := fnMoreCoresRow.holds Try.pinned (OpenSpec.ofChange fnMoreCoresWrong)

/-- 'laws.FnPartition': WHATEVER THE INPUT: true; the input reads as it did. -/
def fnPartitionSpec : ChangeSpec := { name := "fnPartition", fn := fun _ => fun
  | [d1, d2] => { results := [.lit (.bool true)], args := [d1, d2] }
  | _ => none }
def fnPartitionRow : OpenClaim := { program := "ytfngcejaphhmmaa", sum := "5ab5a6cf721b8cb4d96779fd53e179212d3a3c9097b35de05f8618bb038e17ca", func := "loop.example/deadlinescheduler/laws.FnPartition", spec := "fnPartition", unfollowed := true, recurses := true, apart := false }
def FnPartitionSaid : Prop := fnPartitionRow.holds Try.pinned (OpenSpec.ofChange fnPartitionSpec)

/-- ITS FALSE NEIGHBOUR: 'it returns false'. Refute it at one input. -/
def fnPartitionWrong : ChangeSpec := { name := "fnPartition", fn := fun _ => fun
  | [d1, d2] => { results := [.lit (.bool false)], args := [d1, d2] }
  | _ => none }
def FnPartitionWrongFalsely : Prop := fnPartitionRow.holds Try.pinned (OpenSpec.ofChange fnPartitionWrong)

/-- 'laws.FnPartitionSafe': WHATEVER THE INPUT: true; the input reads as it did. -/
def fnPartitionSafeSpec : ChangeSpec := { name := "fnPartitionSafe", fn := fun _ => fun
  | [d] => { results := [.lit (.bool true)], args := [d] }
  | _ => none }
def fnPartitionSafeRow : OpenClaim := { program := "ytfngcejaphhmmaa", sum := "5ab5a6cf721b8cb4d96779fd53e179212d3a3c9097b35de05f8618bb038e17ca", func := "loop.example/deadlinescheduler/laws.FnPartitionSafe", spec := "fnPartitionSafe", unfollowed := true, recurses := true, apart := false }
def FnPartitionSafeSaid : Prop := fnPartitionSafeRow.holds Try.pinned (OpenSpec.ofChange fnPartitionSafeSpec)

/-- ITS FALSE NEIGHBOUR: 'it returns false'. Refute it at one input. -/
def fnPartitionSafeWrong : ChangeSpec := { name := "fnPartitionSafe", fn := fun _ => fun
  | [d] => { results := [.lit (.bool false)], args := [d] }
  | _ => none }
def FnPartitionSafeWrongFalsely : Prop := fnPartitionSafeRow.holds Try.pinned (OpenSpec.ofChange fnPartitionSafeWrong)

/-- 'laws.FnWcetTight': WHATEVER THE INPUT: true; the input reads as it did. -/
def fnWcetTightSpec : ChangeSpec := { name := "fnWcetTight", fn := fun _ => fun
  | [d] => { results := [.lit (.bool true)], args := [d] }
  | _ => none }
def fnWcetTightRow : OpenClaim := { program := "ytfngcejaphhmmaa", sum := "5ab5a6cf721b8cb4d96779fd53e179212d3a3c9097b35de05f8618bb038e17ca", func := "loop.example/deadlinescheduler/laws.FnWcetTight", spec := "fnWcetTight", unfollowed := true, recurses := true, apart := false }
def FnWcetTightSaid : Prop := fnWcetTightRow.holds Try.pinned (OpenSpec.ofChange fnWcetTightSpec)

/-- ITS FALSE NEIGHBOUR: 'it returns false'. Refute it at one input. -/
def fnWcetTightWrong : ChangeSpec := { name := "fnWcetTight", fn := fun _ => fun
  | [d] => { results := [.lit (.bool false)], args := [d] }
  | _ => none }
def FnWcetTightWrongFalsely : Prop := fnWcetTightRow.holds Try.pinned (OpenSpec.ofChange fnWcetTightWrong)

/- THE SECOND FORM. 'bulk': how many values and letters a reading holds, each counted each time it is reached (what is shared counts as often as it is met; a slice's spare places count too). A statement '..UptoSaid' is the law's where the arguments, and the package variables that the reading takes, are together of bulk at most 1048576: NARROWER than '..Said'. Prove '..Said' where nothing that the law and all that it calls make is longer than what came in: it says more and counts as full. Else prove '..UptoSaid'. A law counts once. -/
mutual
def uptoBulk {H : Type} : DataW H → Nat
  | .lit (.string bytes) => bytes.length + 1
  | .lit _ => 1
  | .nil => 1
  | .ptr d => uptoBulk d + 1
  | .slice elems spare => uptoBulkAll elems + uptoBulkAll spare + 1
  | .agg parts => uptoBulkAll parts + 1
  | .iface _ d => uptoBulk d + 1
  | .map entries => uptoBulkEntries entries + 1
  | .held _ => 1
def uptoBulkAll {H : Type} : List (DataW H) → Nat
  | [] => 0
  | d :: r => uptoBulk d + uptoBulkAll r
def uptoBulkEntries {H : Type} : List (Lit × DataW H) → Nat
  | [] => 0
  | x :: r => uptoBulkEntry x + uptoBulkEntries r
def uptoBulkEntry {H : Type} : Lit × DataW H → Nat
  | (.string bytes, d) => bytes.length + uptoBulk d + 1
  | (_, d) => uptoBulk d + 1
 end
def uptoSmall : (H : Type) → List (DataW H) → Bool := fun _ ds => decide (uptoBulkAll ds ≤ 1048576)
def OpenSpec.upto (s : _root_.Go.ChangeSpec) : _root_.Go.OpenSpec := { _root_.Go.OpenSpec.ofChange s with cond := some uptoSmall }

/-- 'laws.FnTable', WHERE WHAT IT READS IS OF BULK AT MOST 1048576: true; the input reads as it did. -/
def fnTableUptoRow : OpenClaim := { program := "ytfngcejaphhmmaa", sum := "5ab5a6cf721b8cb4d96779fd53e179212d3a3c9097b35de05f8618bb038e17ca", func := "loop.example/deadlinescheduler/laws.FnTable", spec := "fnTable", unfollowed := true, recurses := true, apart := false, narrowed := true }
def FnTableUptoSaid : Prop := fnTableUptoRow.holds Try.pinned (OpenSpec.upto fnTableSpec)

/-- 'laws.FnTableEdf', WHERE WHAT IT READS IS OF BULK AT MOST 1048576: true; the input reads as it did. -/
def fnTableEdfUptoRow : OpenClaim := { program := "ytfngcejaphhmmaa", sum := "5ab5a6cf721b8cb4d96779fd53e179212d3a3c9097b35de05f8618bb038e17ca", func := "loop.example/deadlinescheduler/laws.FnTableEdf", spec := "fnTableEdf", unfollowed := true, recurses := true, apart := false, narrowed := true }
def FnTableEdfUptoSaid : Prop := fnTableEdfUptoRow.holds Try.pinned (OpenSpec.upto fnTableEdfSpec)

/-- 'laws.FnFirstFit', WHERE WHAT IT READS IS OF BULK AT MOST 1048576: true; the input reads as it did. -/
def fnFirstFitUptoRow : OpenClaim := { program := "ytfngcejaphhmmaa", sum := "5ab5a6cf721b8cb4d96779fd53e179212d3a3c9097b35de05f8618bb038e17ca", func := "loop.example/deadlinescheduler/laws.FnFirstFit", spec := "fnFirstFit", unfollowed := true, recurses := true, apart := false, narrowed := true }
def FnFirstFitUptoSaid : Prop := fnFirstFitUptoRow.holds Try.pinned (OpenSpec.upto fnFirstFitSpec)

/-- 'laws.FnMinCores', WHERE WHAT IT READS IS OF BULK AT MOST 1048576: true; the input reads as it did. -/
def fnMinCoresUptoRow : OpenClaim := { program := "ytfngcejaphhmmaa", sum := "5ab5a6cf721b8cb4d96779fd53e179212d3a3c9097b35de05f8618bb038e17ca", func := "loop.example/deadlinescheduler/laws.FnMinCores", spec := "fnMinCores", unfollowed := true, recurses := true, apart := false, narrowed := true }
def FnMinCoresUptoSaid : Prop := fnMinCoresUptoRow.holds Try.pinned (OpenSpec.upto fnMinCoresSpec)

/-- 'laws.FnMoreCores', WHERE WHAT IT READS IS OF BULK AT MOST 1048576: true; the input reads as it did. -/
def fnMoreCoresUptoRow : OpenClaim := { program := "ytfngcejaphhmmaa", sum := "5ab5a6cf721b8cb4d96779fd53e179212d3a3c9097b35de05f8618bb038e17ca", func := "loop.example/deadlinescheduler/laws.FnMoreCores", spec := "fnMoreCores", unfollowed := true, recurses := true, apart := false, narrowed := true }
def FnMoreCoresUptoSaid : Prop := fnMoreCoresUptoRow.holds Try.pinned (OpenSpec.upto fnMoreCoresSpec)

/-- 'laws.FnPartition', WHERE WHAT IT READS IS OF BULK AT MOST 1048576: true; the input reads as it did. -/
def fnPartitionUptoRow : OpenClaim := { program := "ytfngcejaphhmmaa", sum := "5ab5a6cf721b8cb4d96779fd53e179212d3a3c9097b35de05f8618bb038e17ca", func := "loop.example/deadlinescheduler/laws.FnPartition", spec := "fnPartition", unfollowed := true, recurses := true, apart := false, narrowed := true }
def FnPartitionUptoSaid : Prop := fnPartitionUptoRow.holds Try.pinned (OpenSpec.upto fnPartitionSpec)

/-- 'laws.FnPartitionSafe', WHERE WHAT IT READS IS OF BULK AT MOST 1048576: true; the input reads as it did. -/
def fnPartitionSafeUptoRow : OpenClaim := { program := "ytfngcejaphhmmaa", sum := "5ab5a6cf721b8cb4d96779fd53e179212d3a3c9097b35de05f8618bb038e17ca", func := "loop.example/deadlinescheduler/laws.FnPartitionSafe", spec := "fnPartitionSafe", unfollowed := true, recurses := true, apart := false, narrowed := true }
def FnPartitionSafeUptoSaid : Prop := fnPartitionSafeUptoRow.holds Try.pinned (OpenSpec.upto fnPartitionSafeSpec)

/-- 'laws.FnWcetTight', WHERE WHAT IT READS IS OF BULK AT MOST 1048576: true; the input reads as it did. -/
def fnWcetTightUptoRow : OpenClaim := { program := "ytfngcejaphhmmaa", sum := "5ab5a6cf721b8cb4d96779fd53e179212d3a3c9097b35de05f8618bb038e17ca", func := "loop.example/deadlinescheduler/laws.FnWcetTight", spec := "fnWcetTight", unfollowed := true, recurses := true, apart := false, narrowed := true }
def FnWcetTightUptoSaid : Prop := fnWcetTightUptoRow.holds Try.pinned (OpenSpec.upto fnWcetTightSpec)

end Rows
end Go.Proofs.Ytfngcejaphhmmaa
