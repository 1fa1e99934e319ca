/-
  No cell of these rows narrows 'for every input' (looked for: loops, veiled, ifaces, maps, wideKeys, modest, calm, conditions, laid).
  DERIVED. THE GIVEN ROWS OF THIS SEAT. 11 by the template 'for every input the law returns true; each argument reads behind the call as it read before'; 0 by the template 'total and deterministic' (their statements: YtnlciginmeebhaaTotals.lean).
  GIVEN WITH THE SEED: the statements are not yours to turn. If you find one false, say at which input.
  Laid BY PROGRAM, IN A SANDBOX (cutbox-rows.mjs): the forced cells as the released guide's own fill.sh prints them over the translation a746c7a62ca5432b… (all of the seat's roots in one cut). By AI agents, Wed Nov 11 2026. No macro, syntax, notation, axiom, sorry.
-/
import Derived.Test.YtnlciginmeebhaaChecked
import GoSem.Claim
import GoSem.ClaimJoined
import GoSem.ClaimMapViews
import Derived.JoinedTies
import Derived.KernelRfl
namespace Go.Proofs.Ytnlciginmeebhaa
/- THE CELL 'sum', in the pinned program and in every row, IS THE sha256 OF THE DUMP (.gsa) THAT YtnlciginmeebhaaProg.lean LOADS. Nothing in Lean hashes anything: it is a label: what it is worth is what the hold of that sum in a sandbox is worth. -/
noncomputable def Try.pinned : Pinned := { name := "ytnlciginmeebhaa", sum := "a746c7a62ca5432bb6637173b6b20173fd202c3d16f8730d177a9515b40eb076", checked := Try.checked }
namespace Rows
def none {H : Type} : Left H := { results := [], args := [] }

/-- 'laws.FnBusySame': WHATEVER THE INPUT: true; the input reads as it did. -/
def fnBusySameSpec : ChangeSpec := { name := "fnBusySame", fn := fun _ => fun
  | [d] => { results := [.lit (.bool true)], args := [d] }
  | _ => none }
def fnBusySameRow : OpenClaim := { program := "ytnlciginmeebhaa", sum := "a746c7a62ca5432bb6637173b6b20173fd202c3d16f8730d177a9515b40eb076", func := "loop.example/deadlinescheduler/laws.FnBusySame", spec := "fnBusySame", unfollowed := true, recurses := true, apart := false }
def FnBusySameSaid : Prop := fnBusySameRow.holds Try.pinned (OpenSpec.ofChange fnBusySameSpec)

/-- ITS FALSE NEIGHBOUR: 'it returns false'. Refute it at one input. -/
def fnBusySameWrong : ChangeSpec := { name := "fnBusySame", fn := fun _ => fun
  | [d] => { results := [.lit (.bool false)], args := [d] }
  | _ => none }
def FnBusySameWrongFalsely : Prop := fnBusySameRow.holds Try.pinned (OpenSpec.ofChange fnBusySameWrong)

/-- 'laws.FnServerShare': WHATEVER THE INPUT: true; the input reads as it did. -/
def fnServerShareSpec : ChangeSpec := { name := "fnServerShare", fn := fun _ => fun
  | [d] => { results := [.lit (.bool true)], args := [d] }
  | _ => none }
def fnServerShareRow : OpenClaim := { program := "ytnlciginmeebhaa", sum := "a746c7a62ca5432bb6637173b6b20173fd202c3d16f8730d177a9515b40eb076", func := "loop.example/deadlinescheduler/laws.FnServerShare", spec := "fnServerShare", unfollowed := true, recurses := true, apart := false }
def FnServerShareSaid : Prop := fnServerShareRow.holds Try.pinned (OpenSpec.ofChange fnServerShareSpec)

/-- ITS FALSE NEIGHBOUR: 'it returns false'. Refute it at one input. -/
def fnServerShareWrong : ChangeSpec := { name := "fnServerShare", fn := fun _ => fun
  | [d] => { results := [.lit (.bool false)], args := [d] }
  | _ => none }
def FnServerShareWrongFalsely : Prop := fnServerShareRow.holds Try.pinned (OpenSpec.ofChange fnServerShareWrong)

/-- 'laws.FnServerIdle': WHATEVER THE INPUT: true; the input reads as it did. -/
def fnServerIdleSpec : ChangeSpec := { name := "fnServerIdle", fn := fun _ => fun
  | [d] => { results := [.lit (.bool true)], args := [d] }
  | _ => none }
def fnServerIdleRow : OpenClaim := { program := "ytnlciginmeebhaa", sum := "a746c7a62ca5432bb6637173b6b20173fd202c3d16f8730d177a9515b40eb076", func := "loop.example/deadlinescheduler/laws.FnServerIdle", spec := "fnServerIdle", unfollowed := true, recurses := true, apart := false }
def FnServerIdleSaid : Prop := fnServerIdleRow.holds Try.pinned (OpenSpec.ofChange fnServerIdleSpec)

/-- ITS FALSE NEIGHBOUR: 'it returns false'. Refute it at one input. -/
def fnServerIdleWrong : ChangeSpec := { name := "fnServerIdle", fn := fun _ => fun
  | [d] => { results := [.lit (.bool false)], args := [d] }
  | _ => none }
def FnServerIdleWrongFalsely : Prop := fnServerIdleRow.holds Try.pinned (OpenSpec.ofChange fnServerIdleWrong)

/-- 'laws.FnServerOrder': WHATEVER THE INPUT: true; the input reads as it did. -/
def fnServerOrderSpec : ChangeSpec := { name := "fnServerOrder", fn := fun _ => fun
  | [d] => { results := [.lit (.bool true)], args := [d] }
  | _ => none }
def fnServerOrderRow : OpenClaim := { program := "ytnlciginmeebhaa", sum := "a746c7a62ca5432bb6637173b6b20173fd202c3d16f8730d177a9515b40eb076", func := "loop.example/deadlinescheduler/laws.FnServerOrder", spec := "fnServerOrder", unfollowed := true, recurses := true, apart := false }
def FnServerOrderSaid : Prop := fnServerOrderRow.holds Try.pinned (OpenSpec.ofChange fnServerOrderSpec)

/-- ITS FALSE NEIGHBOUR: 'it returns false'. Refute it at one input. -/
def fnServerOrderWrong : ChangeSpec := { name := "fnServerOrder", fn := fun _ => fun
  | [d] => { results := [.lit (.bool false)], args := [d] }
  | _ => none }
def FnServerOrderWrongFalsely : Prop := fnServerOrderRow.holds Try.pinned (OpenSpec.ofChange fnServerOrderWrong)

/-- 'laws.FnServerIsolation': WHATEVER THE INPUT: true; the input reads as it did. -/
def fnServerIsolationSpec : ChangeSpec := { name := "fnServerIsolation", fn := fun _ => fun
  | [d] => { results := [.lit (.bool true)], args := [d] }
  | _ => none }
def fnServerIsolationRow : OpenClaim := { program := "ytnlciginmeebhaa", sum := "a746c7a62ca5432bb6637173b6b20173fd202c3d16f8730d177a9515b40eb076", func := "loop.example/deadlinescheduler/laws.FnServerIsolation", spec := "fnServerIsolation", unfollowed := true, recurses := true, apart := false }
def FnServerIsolationSaid : Prop := fnServerIsolationRow.holds Try.pinned (OpenSpec.ofChange fnServerIsolationSpec)

/-- ITS FALSE NEIGHBOUR: 'it returns false'. Refute it at one input. -/
def fnServerIsolationWrong : ChangeSpec := { name := "fnServerIsolation", fn := fun _ => fun
  | [d] => { results := [.lit (.bool false)], args := [d] }
  | _ => none }
def FnServerIsolationWrongFalsely : Prop := fnServerIsolationRow.holds Try.pinned (OpenSpec.ofChange fnServerIsolationWrong)

/-- 'laws.FnResourcesStarted': WHATEVER THE INPUT: true; the input reads as it did. -/
def fnResourcesStartedSpec : ChangeSpec := { name := "fnResourcesStarted", fn := fun _ => fun
  | [d] => { results := [.lit (.bool true)], args := [d] }
  | _ => none }
def fnResourcesStartedRow : OpenClaim := { program := "ytnlciginmeebhaa", sum := "a746c7a62ca5432bb6637173b6b20173fd202c3d16f8730d177a9515b40eb076", func := "loop.example/deadlinescheduler/laws.FnResourcesStarted", spec := "fnResourcesStarted", unfollowed := true, recurses := true, apart := false }
def FnResourcesStartedSaid : Prop := fnResourcesStartedRow.holds Try.pinned (OpenSpec.ofChange fnResourcesStartedSpec)

/-- ITS FALSE NEIGHBOUR: 'it returns false'. Refute it at one input. -/
def fnResourcesStartedWrong : ChangeSpec := { name := "fnResourcesStarted", fn := fun _ => fun
  | [d] => { results := [.lit (.bool false)], args := [d] }
  | _ => none }
def FnResourcesStartedWrongFalsely : Prop := fnResourcesStartedRow.holds Try.pinned (OpenSpec.ofChange fnResourcesStartedWrong)

/-- 'laws.FnResourcesNone': WHATEVER THE INPUT: true; the input reads as it did. -/
def fnResourcesNoneSpec : ChangeSpec := { name := "fnResourcesNone", fn := fun _ => fun
  | [d] => { results := [.lit (.bool true)], args := [d] }
  | _ => none }
def fnResourcesNoneRow : OpenClaim := { program := "ytnlciginmeebhaa", sum := "a746c7a62ca5432bb6637173b6b20173fd202c3d16f8730d177a9515b40eb076", func := "loop.example/deadlinescheduler/laws.FnResourcesNone", spec := "fnResourcesNone", unfollowed := true, recurses := true, apart := false }
def FnResourcesNoneSaid : Prop := fnResourcesNoneRow.holds Try.pinned (OpenSpec.ofChange fnResourcesNoneSpec)

/-- ITS FALSE NEIGHBOUR: 'it returns false'. Refute it at one input. -/
def fnResourcesNoneWrong : ChangeSpec := { name := "fnResourcesNone", fn := fun _ => fun
  | [d] => { results := [.lit (.bool false)], args := [d] }
  | _ => none }
def FnResourcesNoneWrongFalsely : Prop := fnResourcesNoneRow.holds Try.pinned (OpenSpec.ofChange fnResourcesNoneWrong)

/-- 'laws.FnResourcesMutex': WHATEVER THE INPUT: true; the input reads as it did. -/
def fnResourcesMutexSpec : ChangeSpec := { name := "fnResourcesMutex", fn := fun _ => fun
  | [d] => { results := [.lit (.bool true)], args := [d] }
  | _ => none }
def fnResourcesMutexRow : OpenClaim := { program := "ytnlciginmeebhaa", sum := "a746c7a62ca5432bb6637173b6b20173fd202c3d16f8730d177a9515b40eb076", func := "loop.example/deadlinescheduler/laws.FnResourcesMutex", spec := "fnResourcesMutex", unfollowed := true, recurses := true, apart := false }
def FnResourcesMutexSaid : Prop := fnResourcesMutexRow.holds Try.pinned (OpenSpec.ofChange fnResourcesMutexSpec)

/-- ITS FALSE NEIGHBOUR: 'it returns false'. Refute it at one input. -/
def fnResourcesMutexWrong : ChangeSpec := { name := "fnResourcesMutex", fn := fun _ => fun
  | [d] => { results := [.lit (.bool false)], args := [d] }
  | _ => none }
def FnResourcesMutexWrongFalsely : Prop := fnResourcesMutexRow.holds Try.pinned (OpenSpec.ofChange fnResourcesMutexWrong)

/-- 'laws.FnResourcesDone': WHATEVER THE INPUT: true; the input reads as it did. -/
def fnResourcesDoneSpec : ChangeSpec := { name := "fnResourcesDone", fn := fun _ => fun
  | [d] => { results := [.lit (.bool true)], args := [d] }
  | _ => none }
def fnResourcesDoneRow : OpenClaim := { program := "ytnlciginmeebhaa", sum := "a746c7a62ca5432bb6637173b6b20173fd202c3d16f8730d177a9515b40eb076", func := "loop.example/deadlinescheduler/laws.FnResourcesDone", spec := "fnResourcesDone", unfollowed := true, recurses := true, apart := false }
def FnResourcesDoneSaid : Prop := fnResourcesDoneRow.holds Try.pinned (OpenSpec.ofChange fnResourcesDoneSpec)

/-- ITS FALSE NEIGHBOUR: 'it returns false'. Refute it at one input. -/
def fnResourcesDoneWrong : ChangeSpec := { name := "fnResourcesDone", fn := fun _ => fun
  | [d] => { results := [.lit (.bool false)], args := [d] }
  | _ => none }
def FnResourcesDoneWrongFalsely : Prop := fnResourcesDoneRow.holds Try.pinned (OpenSpec.ofChange fnResourcesDoneWrong)

/-- 'laws.FnResourcesBlocked': WHATEVER THE INPUT: true; the input reads as it did. -/
def fnResourcesBlockedSpec : ChangeSpec := { name := "fnResourcesBlocked", fn := fun _ => fun
  | [d] => { results := [.lit (.bool true)], args := [d] }
  | _ => none }
def fnResourcesBlockedRow : OpenClaim := { program := "ytnlciginmeebhaa", sum := "a746c7a62ca5432bb6637173b6b20173fd202c3d16f8730d177a9515b40eb076", func := "loop.example/deadlinescheduler/laws.FnResourcesBlocked", spec := "fnResourcesBlocked", unfollowed := true, recurses := true, apart := false }
def FnResourcesBlockedSaid : Prop := fnResourcesBlockedRow.holds Try.pinned (OpenSpec.ofChange fnResourcesBlockedSpec)

/-- ITS FALSE NEIGHBOUR: 'it returns false'. Refute it at one input. -/
def fnResourcesBlockedWrong : ChangeSpec := { name := "fnResourcesBlocked", fn := fun _ => fun
  | [d] => { results := [.lit (.bool false)], args := [d] }
  | _ => none }
def FnResourcesBlockedWrongFalsely : Prop := fnResourcesBlockedRow.holds Try.pinned (OpenSpec.ofChange fnResourcesBlockedWrong)

/-- 'laws.FnResourcesSafe': WHATEVER THE INPUT: true; the input reads as it did. -/
def fnResourcesSafeSpec : ChangeSpec := { name := "fnResourcesSafe", fn := fun _ => fun
  | [d] => { results := [.lit (.bool true)], args := [d] }
  | _ => none }
def fnResourcesSafeRow : OpenClaim := { program := "ytnlciginmeebhaa", sum := "a746c7a62ca5432bb6637173b6b20173fd202c3d16f8730d177a9515b40eb076", func := "loop.example/deadlinescheduler/laws.FnResourcesSafe", spec := "fnResourcesSafe", unfollowed := true, recurses := true, apart := false }
def FnResourcesSafeSaid : Prop := fnResourcesSafeRow.holds Try.pinned (OpenSpec.ofChange fnResourcesSafeSpec)

/-- ITS FALSE NEIGHBOUR: 'it returns false'. Refute it at one input. -/
def fnResourcesSafeWrong : ChangeSpec := { name := "fnResourcesSafe", fn := fun _ => fun
  | [d] => { results := [.lit (.bool false)], args := [d] }
  | _ => none }
def FnResourcesSafeWrongFalsely : Prop := fnResourcesSafeRow.holds Try.pinned (OpenSpec.ofChange fnResourcesSafeWrong)

/- THE SECOND FORM. 'bulk': how many values and letters a reading holds, each counted each time it is reached (what is shared counts as often as it is met; a slice's spare places count too). A statement '..UptoSaid' is the law's where the arguments, and the package variables that the reading takes, are together of bulk at most 1048576: NARROWER than '..Said'. Prove '..Said' where nothing that the law and all that it calls make is longer than what came in: it says more and counts as full. Else prove '..UptoSaid'. A law counts once. -/
mutual
def uptoBulk {H : Type} : DataW H → Nat
  | .lit (.string bytes) => bytes.length + 1
  | .lit _ => 1
  | .nil => 1
  | .ptr d => uptoBulk d + 1
  | .slice elems spare => uptoBulkAll elems + uptoBulkAll spare + 1
  | .agg parts => uptoBulkAll parts + 1
  | .iface _ d => uptoBulk d + 1
  | .map entries => uptoBulkEntries entries + 1
  | .held _ => 1
def uptoBulkAll {H : Type} : List (DataW H) → Nat
  | [] => 0
  | d :: r => uptoBulk d + uptoBulkAll r
def uptoBulkEntries {H : Type} : List (Lit × DataW H) → Nat
  | [] => 0
  | x :: r => uptoBulkEntry x + uptoBulkEntries r
def uptoBulkEntry {H : Type} : Lit × DataW H → Nat
  | (.string bytes, d) => bytes.length + uptoBulk d + 1
  | (_, d) => uptoBulk d + 1
 end
def uptoSmall : (H : Type) → List (DataW H) → Bool := fun _ ds => decide (uptoBulkAll ds ≤ 1048576)
def OpenSpec.upto (s : _root_.Go.ChangeSpec) : _root_.Go.OpenSpec := { _root_.Go.OpenSpec.ofChange s with cond := some uptoSmall }

/-- 'laws.FnBusySame', WHERE WHAT IT READS IS OF BULK AT MOST 1048576: true; the input reads as it did. -/
def fnBusySameUptoRow : OpenClaim := { program := "ytnlciginmeebhaa", sum := "a746c7a62ca5432bb6637173b6b20173fd202c3d16f8730d177a9515b40eb076", func := "loop.example/deadlinescheduler/laws.FnBusySame", spec := "fnBusySame", unfollowed := true, recurses := true, apart := false, narrowed := true }
def FnBusySameUptoSaid : Prop := fnBusySameUptoRow.holds Try.pinned (OpenSpec.upto fnBusySameSpec)

/-- 'laws.FnServerShare', WHERE WHAT IT READS IS OF BULK AT MOST 1048576: true; the input reads as it did. -/
def fnServerShareUptoRow : OpenClaim := { program := "ytnlciginmeebhaa", sum := "a746c7a62ca5432bb6637173b6b20173fd202c3d16f8730d177a9515b40eb076", func := "loop.example/deadlinescheduler/laws.FnServerShare", spec := "fnServerShare", unfollowed := true, recurses := true, apart := false, narrowed := true }
def FnServerShareUptoSaid : Prop := fnServerShareUptoRow.holds Try.pinned (OpenSpec.upto fnServerShareSpec)

/-- 'laws.FnServerIdle', WHERE WHAT IT READS IS OF BULK AT MOST 1048576: true; the input reads as it did. -/
def fnServerIdleUptoRow : OpenClaim := { program := "ytnlciginmeebhaa", sum := "a746c7a62ca5432bb6637173b6b20173fd202c3d16f8730d177a9515b40eb076", func := "loop.example/deadlinescheduler/laws.FnServerIdle", spec := "fnServerIdle", unfollowed := true, recurses := true, apart := false, narrowed := true }
def FnServerIdleUptoSaid : Prop := fnServerIdleUptoRow.holds Try.pinned (OpenSpec.upto fnServerIdleSpec)

/-- 'laws.FnServerOrder', WHERE WHAT IT READS IS OF BULK AT MOST 1048576: true; the input reads as it did. -/
def fnServerOrderUptoRow : OpenClaim := { program := "ytnlciginmeebhaa", sum := "a746c7a62ca5432bb6637173b6b20173fd202c3d16f8730d177a9515b40eb076", func := "loop.example/deadlinescheduler/laws.FnServerOrder", spec := "fnServerOrder", unfollowed := true, recurses := true, apart := false, narrowed := true }
def FnServerOrderUptoSaid : Prop := fnServerOrderUptoRow.holds Try.pinned (OpenSpec.upto fnServerOrderSpec)

/-- 'laws.FnServerIsolation', WHERE WHAT IT READS IS OF BULK AT MOST 1048576: true; the input reads as it did. -/
def fnServerIsolationUptoRow : OpenClaim := { program := "ytnlciginmeebhaa", sum := "a746c7a62ca5432bb6637173b6b20173fd202c3d16f8730d177a9515b40eb076", func := "loop.example/deadlinescheduler/laws.FnServerIsolation", spec := "fnServerIsolation", unfollowed := true, recurses := true, apart := false, narrowed := true }
def FnServerIsolationUptoSaid : Prop := fnServerIsolationUptoRow.holds Try.pinned (OpenSpec.upto fnServerIsolationSpec)

/-- 'laws.FnResourcesStarted', WHERE WHAT IT READS IS OF BULK AT MOST 1048576: true; the input reads as it did. -/
def fnResourcesStartedUptoRow : OpenClaim := { program := "ytnlciginmeebhaa", sum := "a746c7a62ca5432bb6637173b6b20173fd202c3d16f8730d177a9515b40eb076", func := "loop.example/deadlinescheduler/laws.FnResourcesStarted", spec := "fnResourcesStarted", unfollowed := true, recurses := true, apart := false, narrowed := true }
def FnResourcesStartedUptoSaid : Prop := fnResourcesStartedUptoRow.holds Try.pinned (OpenSpec.upto fnResourcesStartedSpec)

/-- 'laws.FnResourcesNone', WHERE WHAT IT READS IS OF BULK AT MOST 1048576: true; the input reads as it did. -/
def fnResourcesNoneUptoRow : OpenClaim := { program := "ytnlciginmeebhaa", sum := "a746c7a62ca5432bb6637173b6b20173fd202c3d16f8730d177a9515b40eb076", func := "loop.example/deadlinescheduler/laws.FnResourcesNone", spec := "fnResourcesNone", unfollowed := true, recurses := true, apart := false, narrowed := true }
def FnResourcesNoneUptoSaid : Prop := fnResourcesNoneUptoRow.holds Try.pinned (OpenSpec.upto fnResourcesNoneSpec)

/-- 'laws.FnResourcesMutex', WHERE WHAT IT READS IS OF BULK AT MOST 1048576: true; the input reads as it did. -/
def fnResourcesMutexUptoRow : OpenClaim := { program := "ytnlciginmeebhaa", sum := "a746c7a62ca5432bb6637173b6b20173fd202c3d16f8730d177a9515b40eb076", func := "loop.example/deadlinescheduler/laws.FnResourcesMutex", spec := "fnResourcesMutex", unfollowed := true, recurses := true, apart := false, narrowed := true }
def FnResourcesMutexUptoSaid : Prop := fnResourcesMutexUptoRow.holds Try.pinned (OpenSpec.upto fnResourcesMutexSpec)

/-- 'laws.FnResourcesDone', WHERE WHAT IT READS IS OF BULK AT MOST 1048576: true; the input reads as it did. -/
def fnResourcesDoneUptoRow : OpenClaim := { program := "ytnlciginmeebhaa", sum := "a746c7a62ca5432bb6637173b6b20173fd202c3d16f8730d177a9515b40eb076", func := "loop.example/deadlinescheduler/laws.FnResourcesDone", spec := "fnResourcesDone", unfollowed := true, recurses := true, apart := false, narrowed := true }
def FnResourcesDoneUptoSaid : Prop := fnResourcesDoneUptoRow.holds Try.pinned (OpenSpec.upto fnResourcesDoneSpec)

/-- 'laws.FnResourcesBlocked', WHERE WHAT IT READS IS OF BULK AT MOST 1048576: true; the input reads as it did. -/
def fnResourcesBlockedUptoRow : OpenClaim := { program := "ytnlciginmeebhaa", sum := "a746c7a62ca5432bb6637173b6b20173fd202c3d16f8730d177a9515b40eb076", func := "loop.example/deadlinescheduler/laws.FnResourcesBlocked", spec := "fnResourcesBlocked", unfollowed := true, recurses := true, apart := false, narrowed := true }
def FnResourcesBlockedUptoSaid : Prop := fnResourcesBlockedUptoRow.holds Try.pinned (OpenSpec.upto fnResourcesBlockedSpec)

/-- 'laws.FnResourcesSafe', WHERE WHAT IT READS IS OF BULK AT MOST 1048576: true; the input reads as it did. -/
def fnResourcesSafeUptoRow : OpenClaim := { program := "ytnlciginmeebhaa", sum := "a746c7a62ca5432bb6637173b6b20173fd202c3d16f8730d177a9515b40eb076", func := "loop.example/deadlinescheduler/laws.FnResourcesSafe", spec := "fnResourcesSafe", unfollowed := true, recurses := true, apart := false, narrowed := true }
def FnResourcesSafeUptoSaid : Prop := fnResourcesSafeUptoRow.holds Try.pinned (OpenSpec.upto fnResourcesSafeSpec)

end Rows
end Go.Proofs.Ytnlciginmeebhaa
