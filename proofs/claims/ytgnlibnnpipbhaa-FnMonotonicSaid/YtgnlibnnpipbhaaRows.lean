/-
  No cell of these rows narrows 'for every input' (looked for: loops, veiled, ifaces, maps, wideKeys, modest, calm, conditions, laid).
  DERIVED. THE GIVEN ROWS OF THIS SEAT. 11 by the template 'for every input the law returns true; each argument reads behind the call as it read before'; 0 by the template 'total and deterministic' (their statements: YtgnlibnnpipbhaaTotals.lean).
  GIVEN WITH THE SEED: the statements are not yours to turn. If you find one false, say at which input.
  Laid BY PROGRAM, IN A SANDBOX (cutbox-rows.mjs): the forced cells as the released guide's own fill.sh prints them over the translation f68773d285efe021… (all of the seat's roots in one cut). By AI agents, Wed Nov 11 2026. No macro, syntax, notation, axiom, sorry.
-/
import Derived.Test.YtgnlibnnpipbhaaChecked
import GoSem.Claim
import GoSem.ClaimJoined
import GoSem.ClaimMapViews
import Derived.JoinedTies
import Derived.KernelRfl
namespace Go.Proofs.Ytgnlibnnpipbhaa
/- THE CELL 'sum', in the pinned program and in every row, IS THE sha256 OF THE DUMP (.gsa) THAT YtgnlibnnpipbhaaProg.lean LOADS. Nothing in Lean hashes anything: it is a label: what it is worth is what the hold of that sum in a sandbox is worth. -/
noncomputable def Try.pinned : Pinned := { name := "ytgnlibnnpipbhaa", sum := "f68773d285efe021a5ca20e23ca8a21fe1c95d8249b1beceedb40df618ba76d4", checked := Try.checked }
namespace Rows
def none {H : Type} : Left H := { results := [], args := [] }

/-- 'laws.FnFixedChoice': WHATEVER THE INPUT: true; the input reads as it did. -/
def fnFixedChoiceSpec : ChangeSpec := { name := "fnFixedChoice", fn := fun _ => fun
  | [d] => { results := [.lit (.bool true)], args := [d] }
  | _ => none }
def fnFixedChoiceRow : OpenClaim := { program := "ytgnlibnnpipbhaa", sum := "f68773d285efe021a5ca20e23ca8a21fe1c95d8249b1beceedb40df618ba76d4", func := "loop.example/deadlinescheduler/laws.FnFixedChoice", spec := "fnFixedChoice", unfollowed := true, recurses := true, apart := false }
def FnFixedChoiceSaid : Prop := fnFixedChoiceRow.holds Try.pinned (OpenSpec.ofChange fnFixedChoiceSpec)

/-- ITS FALSE NEIGHBOUR: 'it returns false'. Refute it at one input. -/
def fnFixedChoiceWrong : ChangeSpec := { name := "fnFixedChoice", fn := fun _ => fun
  | [d] => { results := [.lit (.bool false)], args := [d] }
  | _ => none }
def FnFixedChoiceWrongFalsely : Prop := fnFixedChoiceRow.holds Try.pinned (OpenSpec.ofChange fnFixedChoiceWrong)

/-- 'laws.FnRunFixed': WHATEVER THE INPUT: true; the input reads as it did. -/
def fnRunFixedSpec : ChangeSpec := { name := "fnRunFixed", fn := fun _ => fun
  | [d] => { results := [.lit (.bool true)], args := [d] }
  | _ => none }
def fnRunFixedRow : OpenClaim := { program := "ytgnlibnnpipbhaa", sum := "f68773d285efe021a5ca20e23ca8a21fe1c95d8249b1beceedb40df618ba76d4", func := "loop.example/deadlinescheduler/laws.FnRunFixed", spec := "fnRunFixed", unfollowed := true, recurses := true, apart := false }
def FnRunFixedSaid : Prop := fnRunFixedRow.holds Try.pinned (OpenSpec.ofChange fnRunFixedSpec)

/-- ITS FALSE NEIGHBOUR: 'it returns false'. Refute it at one input. -/
def fnRunFixedWrong : ChangeSpec := { name := "fnRunFixed", fn := fun _ => fun
  | [d] => { results := [.lit (.bool false)], args := [d] }
  | _ => none }
def FnRunFixedWrongFalsely : Prop := fnRunFixedRow.holds Try.pinned (OpenSpec.ofChange fnRunFixedWrong)

/-- 'laws.FnEdfOptimal': WHATEVER THE INPUT: true; the input reads as it did. -/
def fnEdfOptimalSpec : ChangeSpec := { name := "fnEdfOptimal", fn := fun _ => fun
  | [d] => { results := [.lit (.bool true)], args := [d] }
  | _ => none }
def fnEdfOptimalRow : OpenClaim := { program := "ytgnlibnnpipbhaa", sum := "f68773d285efe021a5ca20e23ca8a21fe1c95d8249b1beceedb40df618ba76d4", func := "loop.example/deadlinescheduler/laws.FnEdfOptimal", spec := "fnEdfOptimal", unfollowed := true, recurses := true, apart := false }
def FnEdfOptimalSaid : Prop := fnEdfOptimalRow.holds Try.pinned (OpenSpec.ofChange fnEdfOptimalSpec)

/-- ITS FALSE NEIGHBOUR: 'it returns false'. Refute it at one input. -/
def fnEdfOptimalWrong : ChangeSpec := { name := "fnEdfOptimal", fn := fun _ => fun
  | [d] => { results := [.lit (.bool false)], args := [d] }
  | _ => none }
def FnEdfOptimalWrongFalsely : Prop := fnEdfOptimalRow.holds Try.pinned (OpenSpec.ofChange fnEdfOptimalWrong)

/-- 'laws.FnFixedSafe': WHATEVER THE INPUT: true; the input reads as it did. -/
def fnFixedSafeSpec : ChangeSpec := { name := "fnFixedSafe", fn := fun _ => fun
  | [d] => { results := [.lit (.bool true)], args := [d] }
  | _ => none }
def fnFixedSafeRow : OpenClaim := { program := "ytgnlibnnpipbhaa", sum := "f68773d285efe021a5ca20e23ca8a21fe1c95d8249b1beceedb40df618ba76d4", func := "loop.example/deadlinescheduler/laws.FnFixedSafe", spec := "fnFixedSafe", unfollowed := true, recurses := true, apart := false }
def FnFixedSafeSaid : Prop := fnFixedSafeRow.holds Try.pinned (OpenSpec.ofChange fnFixedSafeSpec)

/-- ITS FALSE NEIGHBOUR: 'it returns false'. Refute it at one input. -/
def fnFixedSafeWrong : ChangeSpec := { name := "fnFixedSafe", fn := fun _ => fun
  | [d] => { results := [.lit (.bool false)], args := [d] }
  | _ => none }
def FnFixedSafeWrongFalsely : Prop := fnFixedSafeRow.holds Try.pinned (OpenSpec.ofChange fnFixedSafeWrong)

/-- 'laws.FnEdfExact': WHATEVER THE INPUT: true; the input reads as it did. -/
def fnEdfExactSpec : ChangeSpec := { name := "fnEdfExact", fn := fun _ => fun
  | [d] => { results := [.lit (.bool true)], args := [d] }
  | _ => none }
def fnEdfExactRow : OpenClaim := { program := "ytgnlibnnpipbhaa", sum := "f68773d285efe021a5ca20e23ca8a21fe1c95d8249b1beceedb40df618ba76d4", func := "loop.example/deadlinescheduler/laws.FnEdfExact", spec := "fnEdfExact", unfollowed := true, recurses := true, apart := false }
def FnEdfExactSaid : Prop := fnEdfExactRow.holds Try.pinned (OpenSpec.ofChange fnEdfExactSpec)

/-- ITS FALSE NEIGHBOUR: 'it returns false'. Refute it at one input. -/
def fnEdfExactWrong : ChangeSpec := { name := "fnEdfExact", fn := fun _ => fun
  | [d] => { results := [.lit (.bool false)], args := [d] }
  | _ => none }
def FnEdfExactWrongFalsely : Prop := fnEdfExactRow.holds Try.pinned (OpenSpec.ofChange fnEdfExactWrong)

/-- 'laws.FnResponseExact': WHATEVER THE INPUT: true; the input reads as it did. -/
def fnResponseExactSpec : ChangeSpec := { name := "fnResponseExact", fn := fun _ => fun
  | [d] => { results := [.lit (.bool true)], args := [d] }
  | _ => none }
def fnResponseExactRow : OpenClaim := { program := "ytgnlibnnpipbhaa", sum := "f68773d285efe021a5ca20e23ca8a21fe1c95d8249b1beceedb40df618ba76d4", func := "loop.example/deadlinescheduler/laws.FnResponseExact", spec := "fnResponseExact", unfollowed := true, recurses := true, apart := false }
def FnResponseExactSaid : Prop := fnResponseExactRow.holds Try.pinned (OpenSpec.ofChange fnResponseExactSpec)

/-- ITS FALSE NEIGHBOUR: 'it returns false'. Refute it at one input. -/
def fnResponseExactWrong : ChangeSpec := { name := "fnResponseExact", fn := fun _ => fun
  | [d] => { results := [.lit (.bool false)], args := [d] }
  | _ => none }
def FnResponseExactWrongFalsely : Prop := fnResponseExactRow.holds Try.pinned (OpenSpec.ofChange fnResponseExactWrong)

/-- 'laws.FnMonotonic': WHATEVER THE INPUT: true; the input reads as it did. -/
def fnMonotonicSpec : ChangeSpec := { name := "fnMonotonic", fn := fun _ => fun
  | [d] => { results := [.lit (.bool true)], args := [d] }
  | _ => none }
def fnMonotonicRow : OpenClaim := { program := "ytgnlibnnpipbhaa", sum := "f68773d285efe021a5ca20e23ca8a21fe1c95d8249b1beceedb40df618ba76d4", func := "loop.example/deadlinescheduler/laws.FnMonotonic", spec := "fnMonotonic", unfollowed := true, recurses := true, apart := false }
def FnMonotonicSaid : Prop := fnMonotonicRow.holds Try.pinned (OpenSpec.ofChange fnMonotonicSpec)

/-- ITS FALSE NEIGHBOUR: 'it returns false'. Refute it at one input. -/
def fnMonotonicWrong : ChangeSpec := { name := "fnMonotonic", fn := fun _ => fun
  | [d] => { results := [.lit (.bool false)], args := [d] }
  | _ => none }
def FnMonotonicWrongFalsely : Prop := fnMonotonicRow.holds Try.pinned (OpenSpec.ofChange fnMonotonicWrong)

/-- 'laws.FnCheckLength': WHATEVER THE INPUT: true; the input reads as it did. -/
def fnCheckLengthSpec : ChangeSpec := { name := "fnCheckLength", fn := fun _ => fun
  | [d] => { results := [.lit (.bool true)], args := [d] }
  | _ => none }
def fnCheckLengthRow : OpenClaim := { program := "ytgnlibnnpipbhaa", sum := "f68773d285efe021a5ca20e23ca8a21fe1c95d8249b1beceedb40df618ba76d4", func := "loop.example/deadlinescheduler/laws.FnCheckLength", spec := "fnCheckLength", unfollowed := true, recurses := true, apart := false }
def FnCheckLengthSaid : Prop := fnCheckLengthRow.holds Try.pinned (OpenSpec.ofChange fnCheckLengthSpec)

/-- ITS FALSE NEIGHBOUR: 'it returns false'. Refute it at one input. -/
def fnCheckLengthWrong : ChangeSpec := { name := "fnCheckLength", fn := fun _ => fun
  | [d] => { results := [.lit (.bool false)], args := [d] }
  | _ => none }
def FnCheckLengthWrongFalsely : Prop := fnCheckLengthRow.holds Try.pinned (OpenSpec.ofChange fnCheckLengthWrong)

/-- 'laws.FnCheckSound': WHATEVER THE INPUT: true; the input reads as it did. -/
def fnCheckSoundSpec : ChangeSpec := { name := "fnCheckSound", fn := fun _ => fun
  | [d] => { results := [.lit (.bool true)], args := [d] }
  | _ => none }
def fnCheckSoundRow : OpenClaim := { program := "ytgnlibnnpipbhaa", sum := "f68773d285efe021a5ca20e23ca8a21fe1c95d8249b1beceedb40df618ba76d4", func := "loop.example/deadlinescheduler/laws.FnCheckSound", spec := "fnCheckSound", unfollowed := true, recurses := true, apart := false }
def FnCheckSoundSaid : Prop := fnCheckSoundRow.holds Try.pinned (OpenSpec.ofChange fnCheckSoundSpec)

/-- ITS FALSE NEIGHBOUR: 'it returns false'. Refute it at one input. -/
def fnCheckSoundWrong : ChangeSpec := { name := "fnCheckSound", fn := fun _ => fun
  | [d] => { results := [.lit (.bool false)], args := [d] }
  | _ => none }
def FnCheckSoundWrongFalsely : Prop := fnCheckSoundRow.holds Try.pinned (OpenSpec.ofChange fnCheckSoundWrong)

/-- 'laws.FnCheckTamper': WHATEVER THE INPUT: true; the input reads as it did. -/
def fnCheckTamperSpec : ChangeSpec := { name := "fnCheckTamper", fn := fun _ => fun
  | [d] => { results := [.lit (.bool true)], args := [d] }
  | _ => none }
def fnCheckTamperRow : OpenClaim := { program := "ytgnlibnnpipbhaa", sum := "f68773d285efe021a5ca20e23ca8a21fe1c95d8249b1beceedb40df618ba76d4", func := "loop.example/deadlinescheduler/laws.FnCheckTamper", spec := "fnCheckTamper", unfollowed := true, recurses := true, apart := false }
def FnCheckTamperSaid : Prop := fnCheckTamperRow.holds Try.pinned (OpenSpec.ofChange fnCheckTamperSpec)

/-- ITS FALSE NEIGHBOUR: 'it returns false'. Refute it at one input. -/
def fnCheckTamperWrong : ChangeSpec := { name := "fnCheckTamper", fn := fun _ => fun
  | [d] => { results := [.lit (.bool false)], args := [d] }
  | _ => none }
def FnCheckTamperWrongFalsely : Prop := fnCheckTamperRow.holds Try.pinned (OpenSpec.ofChange fnCheckTamperWrong)

/-- 'laws.FnCheckEdf': WHATEVER THE INPUT: true; the input reads as it did. -/
def fnCheckEdfSpec : ChangeSpec := { name := "fnCheckEdf", fn := fun _ => fun
  | [d] => { results := [.lit (.bool true)], args := [d] }
  | _ => none }
def fnCheckEdfRow : OpenClaim := { program := "ytgnlibnnpipbhaa", sum := "f68773d285efe021a5ca20e23ca8a21fe1c95d8249b1beceedb40df618ba76d4", func := "loop.example/deadlinescheduler/laws.FnCheckEdf", spec := "fnCheckEdf", unfollowed := true, recurses := true, apart := false }
def FnCheckEdfSaid : Prop := fnCheckEdfRow.holds Try.pinned (OpenSpec.ofChange fnCheckEdfSpec)

/-- ITS FALSE NEIGHBOUR: 'it returns false'. Refute it at one input. -/
def fnCheckEdfWrong : ChangeSpec := { name := "fnCheckEdf", fn := fun _ => fun
  | [d] => { results := [.lit (.bool false)], args := [d] }
  | _ => none }
def FnCheckEdfWrongFalsely : Prop := fnCheckEdfRow.holds Try.pinned (OpenSpec.ofChange fnCheckEdfWrong)

/- THE SECOND FORM. 'bulk': how many values and letters a reading holds, each counted each time it is reached (what is shared counts as often as it is met; a slice's spare places count too). A statement '..UptoSaid' is the law's where the arguments, and the package variables that the reading takes, are together of bulk at most 1048576: NARROWER than '..Said'. Prove '..Said' where nothing that the law and all that it calls make is longer than what came in: it says more and counts as full. Else prove '..UptoSaid'. A law counts once. -/
mutual
def uptoBulk {H : Type} : DataW H → Nat
  | .lit (.string bytes) => bytes.length + 1
  | .lit _ => 1
  | .nil => 1
  | .ptr d => uptoBulk d + 1
  | .slice elems spare => uptoBulkAll elems + uptoBulkAll spare + 1
  | .agg parts => uptoBulkAll parts + 1
  | .iface _ d => uptoBulk d + 1
  | .map entries => uptoBulkEntries entries + 1
  | .held _ => 1
def uptoBulkAll {H : Type} : List (DataW H) → Nat
  | [] => 0
  | d :: r => uptoBulk d + uptoBulkAll r
def uptoBulkEntries {H : Type} : List (Lit × DataW H) → Nat
  | [] => 0
  | x :: r => uptoBulkEntry x + uptoBulkEntries r
def uptoBulkEntry {H : Type} : Lit × DataW H → Nat
  | (.string bytes, d) => bytes.length + uptoBulk d + 1
  | (_, d) => uptoBulk d + 1
 end
def uptoSmall : (H : Type) → List (DataW H) → Bool := fun _ ds => decide (uptoBulkAll ds ≤ 1048576)
def OpenSpec.upto (s : _root_.Go.ChangeSpec) : _root_.Go.OpenSpec := { _root_.Go.OpenSpec.ofChange s with cond := some uptoSmall }

/-- 'laws.FnFixedChoice', WHERE WHAT IT READS IS OF BULK AT MOST 1048576: true; the input reads as it did. -/
def fnFixedChoiceUptoRow : OpenClaim := { program := "ytgnlibnnpipbhaa", sum := "f68773d285efe021a5ca20e23ca8a21fe1c95d8249b1beceedb40df618ba76d4", func := "loop.example/deadlinescheduler/laws.FnFixedChoice", spec := "fnFixedChoice", unfollowed := true, recurses := true, apart := false, narrowed := true }
def FnFixedChoiceUptoSaid : Prop := fnFixedChoiceUptoRow.holds Try.pinned (OpenSpec.upto fnFixedChoiceSpec)

/-- 'laws.FnRunFixed', WHERE WHAT IT READS IS OF BULK AT MOST 1048576: true; the input reads as it did. -/
def fnRunFixedUptoRow : OpenClaim := { program := "ytgnlibnnpipbhaa", sum := "f68773d285efe021a5ca20e23ca8a21fe1c95d8249b1beceedb40df618ba76d4", func := "loop.example/deadlinescheduler/laws.FnRunFixed", spec := "fnRunFixed", unfollowed := true, recurses := true, apart := false, narrowed := true }
def FnRunFixedUptoSaid : Prop := fnRunFixedUptoRow.holds Try.pinned (OpenSpec.upto fnRunFixedSpec)

/-- 'laws.FnEdfOptimal', WHERE WHAT IT READS IS OF BULK AT MOST 1048576: true; the input reads as it did. -/
def fnEdfOptimalUptoRow : OpenClaim := { program := "ytgnlibnnpipbhaa", sum := "f68773d285efe021a5ca20e23ca8a21fe1c95d8249b1beceedb40df618ba76d4", func := "loop.example/deadlinescheduler/laws.FnEdfOptimal", spec := "fnEdfOptimal", unfollowed := true, recurses := true, apart := false, narrowed := true }
def FnEdfOptimalUptoSaid : Prop := fnEdfOptimalUptoRow.holds Try.pinned (OpenSpec.upto fnEdfOptimalSpec)

/-- 'laws.FnFixedSafe', WHERE WHAT IT READS IS OF BULK AT MOST 1048576: true; the input reads as it did. -/
def fnFixedSafeUptoRow : OpenClaim := { program := "ytgnlibnnpipbhaa", sum := "f68773d285efe021a5ca20e23ca8a21fe1c95d8249b1beceedb40df618ba76d4", func := "loop.example/deadlinescheduler/laws.FnFixedSafe", spec := "fnFixedSafe", unfollowed := true, recurses := true, apart := false, narrowed := true }
def FnFixedSafeUptoSaid : Prop := fnFixedSafeUptoRow.holds Try.pinned (OpenSpec.upto fnFixedSafeSpec)

/-- 'laws.FnEdfExact', WHERE WHAT IT READS IS OF BULK AT MOST 1048576: true; the input reads as it did. -/
def fnEdfExactUptoRow : OpenClaim := { program := "ytgnlibnnpipbhaa", sum := "f68773d285efe021a5ca20e23ca8a21fe1c95d8249b1beceedb40df618ba76d4", func := "loop.example/deadlinescheduler/laws.FnEdfExact", spec := "fnEdfExact", unfollowed := true, recurses := true, apart := false, narrowed := true }
def FnEdfExactUptoSaid : Prop := fnEdfExactUptoRow.holds Try.pinned (OpenSpec.upto fnEdfExactSpec)

/-- 'laws.FnResponseExact', WHERE WHAT IT READS IS OF BULK AT MOST 1048576: true; the input reads as it did. -/
def fnResponseExactUptoRow : OpenClaim := { program := "ytgnlibnnpipbhaa", sum := "f68773d285efe021a5ca20e23ca8a21fe1c95d8249b1beceedb40df618ba76d4", func := "loop.example/deadlinescheduler/laws.FnResponseExact", spec := "fnResponseExact", unfollowed := true, recurses := true, apart := false, narrowed := true }
def FnResponseExactUptoSaid : Prop := fnResponseExactUptoRow.holds Try.pinned (OpenSpec.upto fnResponseExactSpec)

/-- 'laws.FnMonotonic', WHERE WHAT IT READS IS OF BULK AT MOST 1048576: true; the input reads as it did. -/
def fnMonotonicUptoRow : OpenClaim := { program := "ytgnlibnnpipbhaa", sum := "f68773d285efe021a5ca20e23ca8a21fe1c95d8249b1beceedb40df618ba76d4", func := "loop.example/deadlinescheduler/laws.FnMonotonic", spec := "fnMonotonic", unfollowed := true, recurses := true, apart := false, narrowed := true }
def FnMonotonicUptoSaid : Prop := fnMonotonicUptoRow.holds Try.pinned (OpenSpec.upto fnMonotonicSpec)

/-- 'laws.FnCheckLength', WHERE WHAT IT READS IS OF BULK AT MOST 1048576: true; the input reads as it did. -/
def fnCheckLengthUptoRow : OpenClaim := { program := "ytgnlibnnpipbhaa", sum := "f68773d285efe021a5ca20e23ca8a21fe1c95d8249b1beceedb40df618ba76d4", func := "loop.example/deadlinescheduler/laws.FnCheckLength", spec := "fnCheckLength", unfollowed := true, recurses := true, apart := false, narrowed := true }
def FnCheckLengthUptoSaid : Prop := fnCheckLengthUptoRow.holds Try.pinned (OpenSpec.upto fnCheckLengthSpec)

/-- 'laws.FnCheckSound', WHERE WHAT IT READS IS OF BULK AT MOST 1048576: true; the input reads as it did. -/
def fnCheckSoundUptoRow : OpenClaim := { program := "ytgnlibnnpipbhaa", sum := "f68773d285efe021a5ca20e23ca8a21fe1c95d8249b1beceedb40df618ba76d4", func := "loop.example/deadlinescheduler/laws.FnCheckSound", spec := "fnCheckSound", unfollowed := true, recurses := true, apart := false, narrowed := true }
def FnCheckSoundUptoSaid : Prop := fnCheckSoundUptoRow.holds Try.pinned (OpenSpec.upto fnCheckSoundSpec)

/-- 'laws.FnCheckTamper', WHERE WHAT IT READS IS OF BULK AT MOST 1048576: true; the input reads as it did. -/
def fnCheckTamperUptoRow : OpenClaim := { program := "ytgnlibnnpipbhaa", sum := "f68773d285efe021a5ca20e23ca8a21fe1c95d8249b1beceedb40df618ba76d4", func := "loop.example/deadlinescheduler/laws.FnCheckTamper", spec := "fnCheckTamper", unfollowed := true, recurses := true, apart := false, narrowed := true }
def FnCheckTamperUptoSaid : Prop := fnCheckTamperUptoRow.holds Try.pinned (OpenSpec.upto fnCheckTamperSpec)

/-- 'laws.FnCheckEdf', WHERE WHAT IT READS IS OF BULK AT MOST 1048576: true; the input reads as it did. -/
def fnCheckEdfUptoRow : OpenClaim := { program := "ytgnlibnnpipbhaa", sum := "f68773d285efe021a5ca20e23ca8a21fe1c95d8249b1beceedb40df618ba76d4", func := "loop.example/deadlinescheduler/laws.FnCheckEdf", spec := "fnCheckEdf", unfollowed := true, recurses := true, apart := false, narrowed := true }
def FnCheckEdfUptoSaid : Prop := fnCheckEdfUptoRow.holds Try.pinned (OpenSpec.upto fnCheckEdfSpec)

end Rows
end Go.Proofs.Ytgnlibnnpipbhaa
