/-
  No cell of these rows narrows 'for every input' (looked for: loops, veiled, ifaces, maps, wideKeys, modest, calm, conditions, laid).
  DERIVED. THE GIVEN ROWS OF THIS SEAT. 9 by the template 'for every input the law returns true; each argument reads behind the call as it read before'; 0 by the template 'total and deterministic' (their statements: YtmphblbpofnpaaaTotals.lean).
  GIVEN WITH THE SEED: the statements are not yours to turn. If you find one false, say at which input.
  Laid BY PROGRAM, IN A SANDBOX (cutbox-rows.mjs): the forced cells as the released guide's own fill.sh prints them over the translation 1df1c022a24f6270… (all of the seat's roots in one cut). By AI agents, Wed Nov 11 2026. No macro, syntax, notation, axiom, sorry.
-/
import Derived.Test.YtmphblbpofnpaaaChecked
import GoSem.Claim
import GoSem.ClaimJoined
import GoSem.ClaimMapViews
import Derived.JoinedTies
import Derived.KernelRfl
namespace Go.Proofs.Ytmphblbpofnpaaa
/- THE CELL 'sum', in the pinned program and in every row, IS THE sha256 OF THE DUMP (.gsa) THAT YtmphblbpofnpaaaProg.lean LOADS. Nothing in Lean hashes anything: it is a label: what it is worth is what the hold of that sum in a sandbox is worth. -/
noncomputable def Try.pinned : Pinned := { name := "ytmphblbpofnpaaa", sum := "1df1c022a24f6270f8ef88f13fd130793a400f9fe8e49e58b558a0ce99d5f623", checked := Try.checked }
namespace Rows
def none {H : Type} : Left H := { results := [], args := [] }

/-- 'laws.FnMixedSwitch': WHATEVER THE INPUT: true; the input reads as it did. -/
def fnMixedSwitchSpec : ChangeSpec := { name := "fnMixedSwitch", fn := fun _ => fun
  | [d] => { results := [.lit (.bool true)], args := [d] }
  | _ => none }
def fnMixedSwitchRow : OpenClaim := { program := "ytmphblbpofnpaaa", sum := "1df1c022a24f6270f8ef88f13fd130793a400f9fe8e49e58b558a0ce99d5f623", func := "loop.example/deadlinescheduler/laws.FnMixedSwitch", spec := "fnMixedSwitch", unfollowed := true, recurses := true, apart := false }
def FnMixedSwitchSaid : Prop := fnMixedSwitchRow.holds Try.pinned (OpenSpec.ofChange fnMixedSwitchSpec)

/-- ITS FALSE NEIGHBOUR: 'it returns false'. Refute it at one input. -/
def fnMixedSwitchWrong : ChangeSpec := { name := "fnMixedSwitch", fn := fun _ => fun
  | [d] => { results := [.lit (.bool false)], args := [d] }
  | _ => none }
def FnMixedSwitchWrongFalsely : Prop := fnMixedSwitchRow.holds Try.pinned (OpenSpec.ofChange fnMixedSwitchWrong)

/-- 'laws.FnMixedLow': WHATEVER THE INPUT: true; the input reads as it did. -/
def fnMixedLowSpec : ChangeSpec := { name := "fnMixedLow", fn := fun _ => fun
  | [d] => { results := [.lit (.bool true)], args := [d] }
  | _ => none }
def fnMixedLowRow : OpenClaim := { program := "ytmphblbpofnpaaa", sum := "1df1c022a24f6270f8ef88f13fd130793a400f9fe8e49e58b558a0ce99d5f623", func := "loop.example/deadlinescheduler/laws.FnMixedLow", spec := "fnMixedLow", unfollowed := true, recurses := true, apart := false }
def FnMixedLowSaid : Prop := fnMixedLowRow.holds Try.pinned (OpenSpec.ofChange fnMixedLowSpec)

/-- ITS FALSE NEIGHBOUR: 'it returns false'. Refute it at one input. -/
def fnMixedLowWrong : ChangeSpec := { name := "fnMixedLow", fn := fun _ => fun
  | [d] => { results := [.lit (.bool false)], args := [d] }
  | _ => none }
def FnMixedLowWrongFalsely : Prop := fnMixedLowRow.holds Try.pinned (OpenSpec.ofChange fnMixedLowWrong)

/-- 'laws.FnMixedVital': WHATEVER THE INPUT: true; the input reads as it did. -/
def fnMixedVitalSpec : ChangeSpec := { name := "fnMixedVital", fn := fun _ => fun
  | [d] => { results := [.lit (.bool true)], args := [d] }
  | _ => none }
def fnMixedVitalRow : OpenClaim := { program := "ytmphblbpofnpaaa", sum := "1df1c022a24f6270f8ef88f13fd130793a400f9fe8e49e58b558a0ce99d5f623", func := "loop.example/deadlinescheduler/laws.FnMixedVital", spec := "fnMixedVital", unfollowed := true, recurses := true, apart := false }
def FnMixedVitalSaid : Prop := fnMixedVitalRow.holds Try.pinned (OpenSpec.ofChange fnMixedVitalSpec)

/-- ITS FALSE NEIGHBOUR: 'it returns false'. Refute it at one input. -/
def fnMixedVitalWrong : ChangeSpec := { name := "fnMixedVital", fn := fun _ => fun
  | [d] => { results := [.lit (.bool false)], args := [d] }
  | _ => none }
def FnMixedVitalWrongFalsely : Prop := fnMixedVitalRow.holds Try.pinned (OpenSpec.ofChange fnMixedVitalWrong)

/-- 'laws.FnMixedRun': WHATEVER THE INPUT: true; the input reads as it did. -/
def fnMixedRunSpec : ChangeSpec := { name := "fnMixedRun", fn := fun _ => fun
  | [d] => { results := [.lit (.bool true)], args := [d] }
  | _ => none }
def fnMixedRunRow : OpenClaim := { program := "ytmphblbpofnpaaa", sum := "1df1c022a24f6270f8ef88f13fd130793a400f9fe8e49e58b558a0ce99d5f623", func := "loop.example/deadlinescheduler/laws.FnMixedRun", spec := "fnMixedRun", unfollowed := true, recurses := true, apart := false }
def FnMixedRunSaid : Prop := fnMixedRunRow.holds Try.pinned (OpenSpec.ofChange fnMixedRunSpec)

/-- ITS FALSE NEIGHBOUR: 'it returns false'. Refute it at one input. -/
def fnMixedRunWrong : ChangeSpec := { name := "fnMixedRun", fn := fun _ => fun
  | [d] => { results := [.lit (.bool false)], args := [d] }
  | _ => none }
def FnMixedRunWrongFalsely : Prop := fnMixedRunRow.holds Try.pinned (OpenSpec.ofChange fnMixedRunWrong)

/-- 'laws.FnExactRunMixed': WHATEVER THE INPUT: true; the input reads as it did. -/
def fnExactRunMixedSpec : ChangeSpec := { name := "fnExactRunMixed", fn := fun _ => fun
  | [d1, d2] => { results := [.lit (.bool true)], args := [d1, d2] }
  | _ => none }
def fnExactRunMixedRow : OpenClaim := { program := "ytmphblbpofnpaaa", sum := "1df1c022a24f6270f8ef88f13fd130793a400f9fe8e49e58b558a0ce99d5f623", func := "loop.example/deadlinescheduler/laws.FnExactRunMixed", spec := "fnExactRunMixed", unfollowed := true, recurses := true, apart := false }
def FnExactRunMixedSaid : Prop := fnExactRunMixedRow.holds Try.pinned (OpenSpec.ofChange fnExactRunMixedSpec)

/-- ITS FALSE NEIGHBOUR: 'it returns false'. Refute it at one input. -/
def fnExactRunMixedWrong : ChangeSpec := { name := "fnExactRunMixed", fn := fun _ => fun
  | [d1, d2] => { results := [.lit (.bool false)], args := [d1, d2] }
  | _ => none }
def FnExactRunMixedWrongFalsely : Prop := fnExactRunMixedRow.holds Try.pinned (OpenSpec.ofChange fnExactRunMixedWrong)

/-- 'laws.FnRunGlobal': WHATEVER THE INPUT: true; the input reads as it did. -/
def fnRunGlobalSpec : ChangeSpec := { name := "fnRunGlobal", fn := fun _ => fun
  | [d] => { results := [.lit (.bool true)], args := [d] }
  | _ => none }
def fnRunGlobalRow : OpenClaim := { program := "ytmphblbpofnpaaa", sum := "1df1c022a24f6270f8ef88f13fd130793a400f9fe8e49e58b558a0ce99d5f623", func := "loop.example/deadlinescheduler/laws.FnRunGlobal", spec := "fnRunGlobal", unfollowed := true, recurses := true, apart := false }
def FnRunGlobalSaid : Prop := fnRunGlobalRow.holds Try.pinned (OpenSpec.ofChange fnRunGlobalSpec)

/-- ITS FALSE NEIGHBOUR: 'it returns false'. Refute it at one input. -/
def fnRunGlobalWrong : ChangeSpec := { name := "fnRunGlobal", fn := fun _ => fun
  | [d] => { results := [.lit (.bool false)], args := [d] }
  | _ => none }
def FnRunGlobalWrongFalsely : Prop := fnRunGlobalRow.holds Try.pinned (OpenSpec.ofChange fnRunGlobalWrong)

/-- 'laws.FnGlobalOne': WHATEVER THE INPUT: true; the input reads as it did. -/
def fnGlobalOneSpec : ChangeSpec := { name := "fnGlobalOne", fn := fun _ => fun
  | [d] => { results := [.lit (.bool true)], args := [d] }
  | _ => none }
def fnGlobalOneRow : OpenClaim := { program := "ytmphblbpofnpaaa", sum := "1df1c022a24f6270f8ef88f13fd130793a400f9fe8e49e58b558a0ce99d5f623", func := "loop.example/deadlinescheduler/laws.FnGlobalOne", spec := "fnGlobalOne", unfollowed := true, recurses := true, apart := false }
def FnGlobalOneSaid : Prop := fnGlobalOneRow.holds Try.pinned (OpenSpec.ofChange fnGlobalOneSpec)

/-- ITS FALSE NEIGHBOUR: 'it returns false'. Refute it at one input. -/
def fnGlobalOneWrong : ChangeSpec := { name := "fnGlobalOne", fn := fun _ => fun
  | [d] => { results := [.lit (.bool false)], args := [d] }
  | _ => none }
def FnGlobalOneWrongFalsely : Prop := fnGlobalOneRow.holds Try.pinned (OpenSpec.ofChange fnGlobalOneWrong)

/-- 'laws.FnGlobalMore': WHATEVER THE INPUT: true; the input reads as it did. -/
def fnGlobalMoreSpec : ChangeSpec := { name := "fnGlobalMore", fn := fun _ => fun
  | [d] => { results := [.lit (.bool true)], args := [d] }
  | _ => none }
def fnGlobalMoreRow : OpenClaim := { program := "ytmphblbpofnpaaa", sum := "1df1c022a24f6270f8ef88f13fd130793a400f9fe8e49e58b558a0ce99d5f623", func := "loop.example/deadlinescheduler/laws.FnGlobalMore", spec := "fnGlobalMore", unfollowed := true, recurses := true, apart := false }
def FnGlobalMoreSaid : Prop := fnGlobalMoreRow.holds Try.pinned (OpenSpec.ofChange fnGlobalMoreSpec)

/-- ITS FALSE NEIGHBOUR: 'it returns false'. Refute it at one input. -/
def fnGlobalMoreWrong : ChangeSpec := { name := "fnGlobalMore", fn := fun _ => fun
  | [d] => { results := [.lit (.bool false)], args := [d] }
  | _ => none }
def FnGlobalMoreWrongFalsely : Prop := fnGlobalMoreRow.holds Try.pinned (OpenSpec.ofChange fnGlobalMoreWrong)

/-- 'laws.FnGlobalSafe': WHATEVER THE INPUT: true; the input reads as it did. -/
def fnGlobalSafeSpec : ChangeSpec := { name := "fnGlobalSafe", fn := fun _ => fun
  | [d] => { results := [.lit (.bool true)], args := [d] }
  | _ => none }
def fnGlobalSafeRow : OpenClaim := { program := "ytmphblbpofnpaaa", sum := "1df1c022a24f6270f8ef88f13fd130793a400f9fe8e49e58b558a0ce99d5f623", func := "loop.example/deadlinescheduler/laws.FnGlobalSafe", spec := "fnGlobalSafe", unfollowed := true, recurses := true, apart := false }
def FnGlobalSafeSaid : Prop := fnGlobalSafeRow.holds Try.pinned (OpenSpec.ofChange fnGlobalSafeSpec)

/-- ITS FALSE NEIGHBOUR: 'it returns false'. Refute it at one input. -/
def fnGlobalSafeWrong : ChangeSpec := { name := "fnGlobalSafe", fn := fun _ => fun
  | [d] => { results := [.lit (.bool false)], args := [d] }
  | _ => none }
def FnGlobalSafeWrongFalsely : Prop := fnGlobalSafeRow.holds Try.pinned (OpenSpec.ofChange fnGlobalSafeWrong)

/- THE SECOND FORM. 'bulk': how many values and letters a reading holds, each counted each time it is reached (what is shared counts as often as it is met; a slice's spare places count too). A statement '..UptoSaid' is the law's where the arguments, and the package variables that the reading takes, are together of bulk at most 1048576: NARROWER than '..Said'. Prove '..Said' where nothing that the law and all that it calls make is longer than what came in: it says more and counts as full. Else prove '..UptoSaid'. A law counts once. -/
mutual
def uptoBulk {H : Type} : DataW H → Nat
  | .lit (.string bytes) => bytes.length + 1
  | .lit _ => 1
  | .nil => 1
  | .ptr d => uptoBulk d + 1
  | .slice elems spare => uptoBulkAll elems + uptoBulkAll spare + 1
  | .agg parts => uptoBulkAll parts + 1
  | .iface _ d => uptoBulk d + 1
  | .map entries => uptoBulkEntries entries + 1
  | .held _ => 1
def uptoBulkAll {H : Type} : List (DataW H) → Nat
  | [] => 0
  | d :: r => uptoBulk d + uptoBulkAll r
def uptoBulkEntries {H : Type} : List (Lit × DataW H) → Nat
  | [] => 0
  | x :: r => uptoBulkEntry x + uptoBulkEntries r
def uptoBulkEntry {H : Type} : Lit × DataW H → Nat
  | (.string bytes, d) => bytes.length + uptoBulk d + 1
  | (_, d) => uptoBulk d + 1
 end
def uptoSmall : (H : Type) → List (DataW H) → Bool := fun _ ds => decide (uptoBulkAll ds ≤ 1048576)
def OpenSpec.upto (s : _root_.Go.ChangeSpec) : _root_.Go.OpenSpec := { _root_.Go.OpenSpec.ofChange s with cond := some uptoSmall }

/-- 'laws.FnMixedSwitch', WHERE WHAT IT READS IS OF BULK AT MOST 1048576: true; the input reads as it did. -/
def fnMixedSwitchUptoRow : OpenClaim := { program := "ytmphblbpofnpaaa", sum := "1df1c022a24f6270f8ef88f13fd130793a400f9fe8e49e58b558a0ce99d5f623", func := "loop.example/deadlinescheduler/laws.FnMixedSwitch", spec := "fnMixedSwitch", unfollowed := true, recurses := true, apart := false, narrowed := true }
def FnMixedSwitchUptoSaid : Prop := fnMixedSwitchUptoRow.holds Try.pinned (OpenSpec.upto fnMixedSwitchSpec)

/-- 'laws.FnMixedLow', WHERE WHAT IT READS IS OF BULK AT MOST 1048576: true; the input reads as it did. -/
def fnMixedLowUptoRow : OpenClaim := { program := "ytmphblbpofnpaaa", sum := "1df1c022a24f6270f8ef88f13fd130793a400f9fe8e49e58b558a0ce99d5f623", func := "loop.example/deadlinescheduler/laws.FnMixedLow", spec := "fnMixedLow", unfollowed := true, recurses := true, apart := false, narrowed := true }
def FnMixedLowUptoSaid : Prop := fnMixedLowUptoRow.holds Try.pinned (OpenSpec.upto fnMixedLowSpec)

/-- 'laws.FnMixedVital', WHERE WHAT IT READS IS OF BULK AT MOST 1048576: true; the input reads as it did. -/
def fnMixedVitalUptoRow : OpenClaim := { program := "ytmphblbpofnpaaa", sum := "1df1c022a24f6270f8ef88f13fd130793a400f9fe8e49e58b558a0ce99d5f623", func := "loop.example/deadlinescheduler/laws.FnMixedVital", spec := "fnMixedVital", unfollowed := true, recurses := true, apart := false, narrowed := true }
def FnMixedVitalUptoSaid : Prop := fnMixedVitalUptoRow.holds Try.pinned (OpenSpec.upto fnMixedVitalSpec)

/-- 'laws.FnMixedRun', WHERE WHAT IT READS IS OF BULK AT MOST 1048576: true; the input reads as it did. -/
def fnMixedRunUptoRow : OpenClaim := { program := "ytmphblbpofnpaaa", sum := "1df1c022a24f6270f8ef88f13fd130793a400f9fe8e49e58b558a0ce99d5f623", func := "loop.example/deadlinescheduler/laws.FnMixedRun", spec := "fnMixedRun", unfollowed := true, recurses := true, apart := false, narrowed := true }
def FnMixedRunUptoSaid : Prop := fnMixedRunUptoRow.holds Try.pinned (OpenSpec.upto fnMixedRunSpec)

/-- 'laws.FnExactRunMixed', WHERE WHAT IT READS IS OF BULK AT MOST 1048576: true; the input reads as it did. -/
def fnExactRunMixedUptoRow : OpenClaim := { program := "ytmphblbpofnpaaa", sum := "1df1c022a24f6270f8ef88f13fd130793a400f9fe8e49e58b558a0ce99d5f623", func := "loop.example/deadlinescheduler/laws.FnExactRunMixed", spec := "fnExactRunMixed", unfollowed := true, recurses := true, apart := false, narrowed := true }
def FnExactRunMixedUptoSaid : Prop := fnExactRunMixedUptoRow.holds Try.pinned (OpenSpec.upto fnExactRunMixedSpec)

/-- 'laws.FnRunGlobal', WHERE WHAT IT READS IS OF BULK AT MOST 1048576: true; the input reads as it did. -/
def fnRunGlobalUptoRow : OpenClaim := { program := "ytmphblbpofnpaaa", sum := "1df1c022a24f6270f8ef88f13fd130793a400f9fe8e49e58b558a0ce99d5f623", func := "loop.example/deadlinescheduler/laws.FnRunGlobal", spec := "fnRunGlobal", unfollowed := true, recurses := true, apart := false, narrowed := true }
def FnRunGlobalUptoSaid : Prop := fnRunGlobalUptoRow.holds Try.pinned (OpenSpec.upto fnRunGlobalSpec)

/-- 'laws.FnGlobalOne', WHERE WHAT IT READS IS OF BULK AT MOST 1048576: true; the input reads as it did. -/
def fnGlobalOneUptoRow : OpenClaim := { program := "ytmphblbpofnpaaa", sum := "1df1c022a24f6270f8ef88f13fd130793a400f9fe8e49e58b558a0ce99d5f623", func := "loop.example/deadlinescheduler/laws.FnGlobalOne", spec := "fnGlobalOne", unfollowed := true, recurses := true, apart := false, narrowed := true }
def FnGlobalOneUptoSaid : Prop := fnGlobalOneUptoRow.holds Try.pinned (OpenSpec.upto fnGlobalOneSpec)

/-- 'laws.FnGlobalMore', WHERE WHAT IT READS IS OF BULK AT MOST 1048576: true; the input reads as it did. -/
def fnGlobalMoreUptoRow : OpenClaim := { program := "ytmphblbpofnpaaa", sum := "1df1c022a24f6270f8ef88f13fd130793a400f9fe8e49e58b558a0ce99d5f623", func := "loop.example/deadlinescheduler/laws.FnGlobalMore", spec := "fnGlobalMore", unfollowed := true, recurses := true, apart := false, narrowed := true }
def FnGlobalMoreUptoSaid : Prop := fnGlobalMoreUptoRow.holds Try.pinned (OpenSpec.upto fnGlobalMoreSpec)

/-- 'laws.FnGlobalSafe', WHERE WHAT IT READS IS OF BULK AT MOST 1048576: true; the input reads as it did. -/
def fnGlobalSafeUptoRow : OpenClaim := { program := "ytmphblbpofnpaaa", sum := "1df1c022a24f6270f8ef88f13fd130793a400f9fe8e49e58b558a0ce99d5f623", func := "loop.example/deadlinescheduler/laws.FnGlobalSafe", spec := "fnGlobalSafe", unfollowed := true, recurses := true, apart := false, narrowed := true }
def FnGlobalSafeUptoSaid : Prop := fnGlobalSafeUptoRow.holds Try.pinned (OpenSpec.upto fnGlobalSafeSpec)

end Rows
end Go.Proofs.Ytmphblbpofnpaaa
