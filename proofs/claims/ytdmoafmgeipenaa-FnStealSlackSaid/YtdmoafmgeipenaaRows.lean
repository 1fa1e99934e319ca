/-
  No cell of these rows narrows 'for every input' (looked for: loops, veiled, ifaces, maps, wideKeys, modest, calm, conditions, laid).
  DERIVED. THE GIVEN ROWS OF THIS SEAT. 12 by the template 'for every input the law returns true; each argument reads behind the call as it read before'; 0 by the template 'total and deterministic' (their statements: YtdmoafmgeipenaaTotals.lean).
  GIVEN WITH THE SEED: the statements are not yours to turn. If you find one false, say at which input.
  Laid BY PROGRAM, IN A SANDBOX (cutbox-rows.mjs): the forced cells as the released guide's own fill.sh prints them over the translation 9a9058c776adc70e… (all of the seat's roots in one cut). By AI agents, Wed Nov 11 2026. No macro, syntax, notation, axiom, sorry.
-/
import Derived.Test.YtdmoafmgeipenaaChecked
import GoSem.Claim
import GoSem.ClaimJoined
import GoSem.ClaimMapViews
import Derived.JoinedTies
import Derived.KernelRfl
namespace Go.Proofs.Ytdmoafmgeipenaa
/- THE CELL 'sum', in the pinned program and in every row, IS THE sha256 OF THE DUMP (.gsa) THAT YtdmoafmgeipenaaProg.lean LOADS. Nothing in Lean hashes anything: it is a label: what it is worth is what the hold of that sum in a sandbox is worth. -/
noncomputable def Try.pinned : Pinned := { name := "ytdmoafmgeipenaa", sum := "9a9058c776adc70e20ad247e2c70f0bec7697cc9c005f9b5b83d562925162125", checked := Try.checked }
namespace Rows
def none {H : Type} : Left H := { results := [], args := [] }

/-- 'laws.FnJitterSafe': WHATEVER THE INPUT: true; the input reads as it did. -/
def fnJitterSafeSpec : ChangeSpec := { name := "fnJitterSafe", fn := fun _ => fun
  | [d] => { results := [.lit (.bool true)], args := [d] }
  | _ => none }
def fnJitterSafeRow : OpenClaim := { program := "ytdmoafmgeipenaa", sum := "9a9058c776adc70e20ad247e2c70f0bec7697cc9c005f9b5b83d562925162125", func := "loop.example/deadlinescheduler/laws.FnJitterSafe", spec := "fnJitterSafe", unfollowed := true, recurses := true, apart := false }
def FnJitterSafeSaid : Prop := fnJitterSafeRow.holds Try.pinned (OpenSpec.ofChange fnJitterSafeSpec)

/-- ITS FALSE NEIGHBOUR: 'it returns false'. Refute it at one input. -/
def fnJitterSafeWrong : ChangeSpec := { name := "fnJitterSafe", fn := fun _ => fun
  | [d] => { results := [.lit (.bool false)], args := [d] }
  | _ => none }
def FnJitterSafeWrongFalsely : Prop := fnJitterSafeRow.holds Try.pinned (OpenSpec.ofChange fnJitterSafeWrong)

/-- 'laws.FnJitterMore': WHATEVER THE INPUT: true; the input reads as it did. -/
def fnJitterMoreSpec : ChangeSpec := { name := "fnJitterMore", fn := fun _ => fun
  | [d] => { results := [.lit (.bool true)], args := [d] }
  | _ => none }
def fnJitterMoreRow : OpenClaim := { program := "ytdmoafmgeipenaa", sum := "9a9058c776adc70e20ad247e2c70f0bec7697cc9c005f9b5b83d562925162125", func := "loop.example/deadlinescheduler/laws.FnJitterMore", spec := "fnJitterMore", unfollowed := true, recurses := true, apart := false }
def FnJitterMoreSaid : Prop := fnJitterMoreRow.holds Try.pinned (OpenSpec.ofChange fnJitterMoreSpec)

/-- ITS FALSE NEIGHBOUR: 'it returns false'. Refute it at one input. -/
def fnJitterMoreWrong : ChangeSpec := { name := "fnJitterMore", fn := fun _ => fun
  | [d] => { results := [.lit (.bool false)], args := [d] }
  | _ => none }
def FnJitterMoreWrongFalsely : Prop := fnJitterMoreRow.holds Try.pinned (OpenSpec.ofChange fnJitterMoreWrong)

/-- 'laws.FnExactRunJitter': WHATEVER THE INPUT: true; the input reads as it did. -/
def fnExactRunJitterSpec : ChangeSpec := { name := "fnExactRunJitter", fn := fun _ => fun
  | [d1, d2, d3, d4] => { results := [.lit (.bool true)], args := [d1, d2, d3, d4] }
  | _ => none }
def fnExactRunJitterRow : OpenClaim := { program := "ytdmoafmgeipenaa", sum := "9a9058c776adc70e20ad247e2c70f0bec7697cc9c005f9b5b83d562925162125", func := "loop.example/deadlinescheduler/laws.FnExactRunJitter", spec := "fnExactRunJitter", unfollowed := true, recurses := true, apart := false }
def FnExactRunJitterSaid : Prop := fnExactRunJitterRow.holds Try.pinned (OpenSpec.ofChange fnExactRunJitterSpec)

/-- ITS FALSE NEIGHBOUR: 'it returns false'. Refute it at one input. -/
def fnExactRunJitterWrong : ChangeSpec := { name := "fnExactRunJitter", fn := fun _ => fun
  | [d1, d2, d3, d4] => { results := [.lit (.bool false)], args := [d1, d2, d3, d4] }
  | _ => none }
def FnExactRunJitterWrongFalsely : Prop := fnExactRunJitterRow.holds Try.pinned (OpenSpec.ofChange fnExactRunJitterWrong)

/-- 'laws.FnExactSlack': WHATEVER THE INPUT: true; the input reads as it did. -/
def fnExactSlackSpec : ChangeSpec := { name := "fnExactSlack", fn := fun _ => fun
  | [d1, d2, d3] => { results := [.lit (.bool true)], args := [d1, d2, d3] }
  | _ => none }
def fnExactSlackRow : OpenClaim := { program := "ytdmoafmgeipenaa", sum := "9a9058c776adc70e20ad247e2c70f0bec7697cc9c005f9b5b83d562925162125", func := "loop.example/deadlinescheduler/laws.FnExactSlack", spec := "fnExactSlack", unfollowed := true, recurses := true, apart := false }
def FnExactSlackSaid : Prop := fnExactSlackRow.holds Try.pinned (OpenSpec.ofChange fnExactSlackSpec)

/-- ITS FALSE NEIGHBOUR: 'it returns false'. Refute it at one input. -/
def fnExactSlackWrong : ChangeSpec := { name := "fnExactSlack", fn := fun _ => fun
  | [d1, d2, d3] => { results := [.lit (.bool false)], args := [d1, d2, d3] }
  | _ => none }
def FnExactSlackWrongFalsely : Prop := fnExactSlackRow.holds Try.pinned (OpenSpec.ofChange fnExactSlackWrong)

/-- 'laws.FnRunPaused': WHATEVER THE INPUT: true; the input reads as it did. -/
def fnRunPausedSpec : ChangeSpec := { name := "fnRunPaused", fn := fun _ => fun
  | [d] => { results := [.lit (.bool true)], args := [d] }
  | _ => none }
def fnRunPausedRow : OpenClaim := { program := "ytdmoafmgeipenaa", sum := "9a9058c776adc70e20ad247e2c70f0bec7697cc9c005f9b5b83d562925162125", func := "loop.example/deadlinescheduler/laws.FnRunPaused", spec := "fnRunPaused", unfollowed := true, recurses := true, apart := false }
def FnRunPausedSaid : Prop := fnRunPausedRow.holds Try.pinned (OpenSpec.ofChange fnRunPausedSpec)

/-- ITS FALSE NEIGHBOUR: 'it returns false'. Refute it at one input. -/
def fnRunPausedWrong : ChangeSpec := { name := "fnRunPaused", fn := fun _ => fun
  | [d] => { results := [.lit (.bool false)], args := [d] }
  | _ => none }
def FnRunPausedWrongFalsely : Prop := fnRunPausedRow.holds Try.pinned (OpenSpec.ofChange fnRunPausedWrong)

/-- 'laws.FnSlack': WHATEVER THE INPUT: true; the input reads as it did. -/
def fnSlackSpec : ChangeSpec := { name := "fnSlack", fn := fun _ => fun
  | [d] => { results := [.lit (.bool true)], args := [d] }
  | _ => none }
def fnSlackRow : OpenClaim := { program := "ytdmoafmgeipenaa", sum := "9a9058c776adc70e20ad247e2c70f0bec7697cc9c005f9b5b83d562925162125", func := "loop.example/deadlinescheduler/laws.FnSlack", spec := "fnSlack", unfollowed := true, recurses := true, apart := false }
def FnSlackSaid : Prop := fnSlackRow.holds Try.pinned (OpenSpec.ofChange fnSlackSpec)

/-- ITS FALSE NEIGHBOUR: 'it returns false'. Refute it at one input. -/
def fnSlackWrong : ChangeSpec := { name := "fnSlack", fn := fun _ => fun
  | [d] => { results := [.lit (.bool false)], args := [d] }
  | _ => none }
def FnSlackWrongFalsely : Prop := fnSlackRow.holds Try.pinned (OpenSpec.ofChange fnSlackWrong)

/-- 'laws.FnExactRunPaused': WHATEVER THE INPUT: true; the input reads as it did. -/
def fnExactRunPausedSpec : ChangeSpec := { name := "fnExactRunPaused", fn := fun _ => fun
  | [d1, d2, d3, d4] => { results := [.lit (.bool true)], args := [d1, d2, d3, d4] }
  | _ => none }
def fnExactRunPausedRow : OpenClaim := { program := "ytdmoafmgeipenaa", sum := "9a9058c776adc70e20ad247e2c70f0bec7697cc9c005f9b5b83d562925162125", func := "loop.example/deadlinescheduler/laws.FnExactRunPaused", spec := "fnExactRunPaused", unfollowed := true, recurses := true, apart := false }
def FnExactRunPausedSaid : Prop := fnExactRunPausedRow.holds Try.pinned (OpenSpec.ofChange fnExactRunPausedSpec)

/-- ITS FALSE NEIGHBOUR: 'it returns false'. Refute it at one input. -/
def fnExactRunPausedWrong : ChangeSpec := { name := "fnExactRunPaused", fn := fun _ => fun
  | [d1, d2, d3, d4] => { results := [.lit (.bool false)], args := [d1, d2, d3, d4] }
  | _ => none }
def FnExactRunPausedWrongFalsely : Prop := fnExactRunPausedRow.holds Try.pinned (OpenSpec.ofChange fnExactRunPausedWrong)

/-- 'laws.FnStealSlack': WHATEVER THE INPUT: true; the input reads as it did. -/
def fnStealSlackSpec : ChangeSpec := { name := "fnStealSlack", fn := fun _ => fun
  | [d] => { results := [.lit (.bool true)], args := [d] }
  | _ => none }
def fnStealSlackRow : OpenClaim := { program := "ytdmoafmgeipenaa", sum := "9a9058c776adc70e20ad247e2c70f0bec7697cc9c005f9b5b83d562925162125", func := "loop.example/deadlinescheduler/laws.FnStealSlack", spec := "fnStealSlack", unfollowed := true, recurses := true, apart := false }
def FnStealSlackSaid : Prop := fnStealSlackRow.holds Try.pinned (OpenSpec.ofChange fnStealSlackSpec)

/-- ITS FALSE NEIGHBOUR: 'it returns false'. Refute it at one input. -/
def fnStealSlackWrong : ChangeSpec := { name := "fnStealSlack", fn := fun _ => fun
  | [d] => { results := [.lit (.bool false)], args := [d] }
  | _ => none }
def FnStealSlackWrongFalsely : Prop := fnStealSlackRow.holds Try.pinned (OpenSpec.ofChange fnStealSlackWrong)

/-- 'laws.FnRunEdfChoice': WHATEVER THE INPUT: true; the input reads as it did. -/
def fnRunEdfChoiceSpec : ChangeSpec := { name := "fnRunEdfChoice", fn := fun _ => fun
  | [d] => { results := [.lit (.bool true)], args := [d] }
  | _ => none }
def fnRunEdfChoiceRow : OpenClaim := { program := "ytdmoafmgeipenaa", sum := "9a9058c776adc70e20ad247e2c70f0bec7697cc9c005f9b5b83d562925162125", func := "loop.example/deadlinescheduler/laws.FnRunEdfChoice", spec := "fnRunEdfChoice", unfollowed := true, recurses := true, apart := false }
def FnRunEdfChoiceSaid : Prop := fnRunEdfChoiceRow.holds Try.pinned (OpenSpec.ofChange fnRunEdfChoiceSpec)

/-- ITS FALSE NEIGHBOUR: 'it returns false'. Refute it at one input. -/
def fnRunEdfChoiceWrong : ChangeSpec := { name := "fnRunEdfChoice", fn := fun _ => fun
  | [d] => { results := [.lit (.bool false)], args := [d] }
  | _ => none }
def FnRunEdfChoiceWrongFalsely : Prop := fnRunEdfChoiceRow.holds Try.pinned (OpenSpec.ofChange fnRunEdfChoiceWrong)

/-- 'laws.FnRunEdfPast': WHATEVER THE INPUT: true; the input reads as it did. -/
def fnRunEdfPastSpec : ChangeSpec := { name := "fnRunEdfPast", fn := fun _ => fun
  | [d] => { results := [.lit (.bool true)], args := [d] }
  | _ => none }
def fnRunEdfPastRow : OpenClaim := { program := "ytdmoafmgeipenaa", sum := "9a9058c776adc70e20ad247e2c70f0bec7697cc9c005f9b5b83d562925162125", func := "loop.example/deadlinescheduler/laws.FnRunEdfPast", spec := "fnRunEdfPast", unfollowed := true, recurses := true, apart := false }
def FnRunEdfPastSaid : Prop := fnRunEdfPastRow.holds Try.pinned (OpenSpec.ofChange fnRunEdfPastSpec)

/-- ITS FALSE NEIGHBOUR: 'it returns false'. Refute it at one input. -/
def fnRunEdfPastWrong : ChangeSpec := { name := "fnRunEdfPast", fn := fun _ => fun
  | [d] => { results := [.lit (.bool false)], args := [d] }
  | _ => none }
def FnRunEdfPastWrongFalsely : Prop := fnRunEdfPastRow.holds Try.pinned (OpenSpec.ofChange fnRunEdfPastWrong)

/-- 'laws.FnRunEdf': WHATEVER THE INPUT: true; the input reads as it did. -/
def fnRunEdfSpec : ChangeSpec := { name := "fnRunEdf", fn := fun _ => fun
  | [d] => { results := [.lit (.bool true)], args := [d] }
  | _ => none }
def fnRunEdfRow : OpenClaim := { program := "ytdmoafmgeipenaa", sum := "9a9058c776adc70e20ad247e2c70f0bec7697cc9c005f9b5b83d562925162125", func := "loop.example/deadlinescheduler/laws.FnRunEdf", spec := "fnRunEdf", unfollowed := true, recurses := true, apart := false }
def FnRunEdfSaid : Prop := fnRunEdfRow.holds Try.pinned (OpenSpec.ofChange fnRunEdfSpec)

/-- ITS FALSE NEIGHBOUR: 'it returns false'. Refute it at one input. -/
def fnRunEdfWrong : ChangeSpec := { name := "fnRunEdf", fn := fun _ => fun
  | [d] => { results := [.lit (.bool false)], args := [d] }
  | _ => none }
def FnRunEdfWrongFalsely : Prop := fnRunEdfRow.holds Try.pinned (OpenSpec.ofChange fnRunEdfWrong)

/-- 'laws.FnEdfSafe': WHATEVER THE INPUT: true; the input reads as it did. -/
def fnEdfSafeSpec : ChangeSpec := { name := "fnEdfSafe", fn := fun _ => fun
  | [d] => { results := [.lit (.bool true)], args := [d] }
  | _ => none }
def fnEdfSafeRow : OpenClaim := { program := "ytdmoafmgeipenaa", sum := "9a9058c776adc70e20ad247e2c70f0bec7697cc9c005f9b5b83d562925162125", func := "loop.example/deadlinescheduler/laws.FnEdfSafe", spec := "fnEdfSafe", unfollowed := true, recurses := true, apart := false }
def FnEdfSafeSaid : Prop := fnEdfSafeRow.holds Try.pinned (OpenSpec.ofChange fnEdfSafeSpec)

/-- ITS FALSE NEIGHBOUR: 'it returns false'. Refute it at one input. -/
def fnEdfSafeWrong : ChangeSpec := { name := "fnEdfSafe", fn := fun _ => fun
  | [d] => { results := [.lit (.bool false)], args := [d] }
  | _ => none }
def FnEdfSafeWrongFalsely : Prop := fnEdfSafeRow.holds Try.pinned (OpenSpec.ofChange fnEdfSafeWrong)

/- THE SECOND FORM. 'bulk': how many values and letters a reading holds, each counted each time it is reached (what is shared counts as often as it is met; a slice's spare places count too). A statement '..UptoSaid' is the law's where the arguments, and the package variables that the reading takes, are together of bulk at most 1048576: NARROWER than '..Said'. Prove '..Said' where nothing that the law and all that it calls make is longer than what came in: it says more and counts as full. Else prove '..UptoSaid'. A law counts once. -/
mutual
def uptoBulk {H : Type} : DataW H → Nat
  | .lit (.string bytes) => bytes.length + 1
  | .lit _ => 1
  | .nil => 1
  | .ptr d => uptoBulk d + 1
  | .slice elems spare => uptoBulkAll elems + uptoBulkAll spare + 1
  | .agg parts => uptoBulkAll parts + 1
  | .iface _ d => uptoBulk d + 1
  | .map entries => uptoBulkEntries entries + 1
  | .held _ => 1
def uptoBulkAll {H : Type} : List (DataW H) → Nat
  | [] => 0
  | d :: r => uptoBulk d + uptoBulkAll r
def uptoBulkEntries {H : Type} : List (Lit × DataW H) → Nat
  | [] => 0
  | x :: r => uptoBulkEntry x + uptoBulkEntries r
def uptoBulkEntry {H : Type} : Lit × DataW H → Nat
  | (.string bytes, d) => bytes.length + uptoBulk d + 1
  | (_, d) => uptoBulk d + 1
 end
def uptoSmall : (H : Type) → List (DataW H) → Bool := fun _ ds => decide (uptoBulkAll ds ≤ 1048576)
def OpenSpec.upto (s : _root_.Go.ChangeSpec) : _root_.Go.OpenSpec := { _root_.Go.OpenSpec.ofChange s with cond := some uptoSmall }

/-- 'laws.FnJitterSafe', WHERE WHAT IT READS IS OF BULK AT MOST 1048576: true; the input reads as it did. -/
def fnJitterSafeUptoRow : OpenClaim := { program := "ytdmoafmgeipenaa", sum := "9a9058c776adc70e20ad247e2c70f0bec7697cc9c005f9b5b83d562925162125", func := "loop.example/deadlinescheduler/laws.FnJitterSafe", spec := "fnJitterSafe", unfollowed := true, recurses := true, apart := false, narrowed := true }
def FnJitterSafeUptoSaid : Prop := fnJitterSafeUptoRow.holds Try.pinned (OpenSpec.upto fnJitterSafeSpec)

/-- 'laws.FnJitterMore', WHERE WHAT IT READS IS OF BULK AT MOST 1048576: true; the input reads as it did. -/
def fnJitterMoreUptoRow : OpenClaim := { program := "ytdmoafmgeipenaa", sum := "9a9058c776adc70e20ad247e2c70f0bec7697cc9c005f9b5b83d562925162125", func := "loop.example/deadlinescheduler/laws.FnJitterMore", spec := "fnJitterMore", unfollowed := true, recurses := true, apart := false, narrowed := true }
def FnJitterMoreUptoSaid : Prop := fnJitterMoreUptoRow.holds Try.pinned (OpenSpec.upto fnJitterMoreSpec)

/-- 'laws.FnExactRunJitter', WHERE WHAT IT READS IS OF BULK AT MOST 1048576: true; the input reads as it did. -/
def fnExactRunJitterUptoRow : OpenClaim := { program := "ytdmoafmgeipenaa", sum := "9a9058c776adc70e20ad247e2c70f0bec7697cc9c005f9b5b83d562925162125", func := "loop.example/deadlinescheduler/laws.FnExactRunJitter", spec := "fnExactRunJitter", unfollowed := true, recurses := true, apart := false, narrowed := true }
def FnExactRunJitterUptoSaid : Prop := fnExactRunJitterUptoRow.holds Try.pinned (OpenSpec.upto fnExactRunJitterSpec)

/-- 'laws.FnExactSlack', WHERE WHAT IT READS IS OF BULK AT MOST 1048576: true; the input reads as it did. -/
def fnExactSlackUptoRow : OpenClaim := { program := "ytdmoafmgeipenaa", sum := "9a9058c776adc70e20ad247e2c70f0bec7697cc9c005f9b5b83d562925162125", func := "loop.example/deadlinescheduler/laws.FnExactSlack", spec := "fnExactSlack", unfollowed := true, recurses := true, apart := false, narrowed := true }
def FnExactSlackUptoSaid : Prop := fnExactSlackUptoRow.holds Try.pinned (OpenSpec.upto fnExactSlackSpec)

/-- 'laws.FnRunPaused', WHERE WHAT IT READS IS OF BULK AT MOST 1048576: true; the input reads as it did. -/
def fnRunPausedUptoRow : OpenClaim := { program := "ytdmoafmgeipenaa", sum := "9a9058c776adc70e20ad247e2c70f0bec7697cc9c005f9b5b83d562925162125", func := "loop.example/deadlinescheduler/laws.FnRunPaused", spec := "fnRunPaused", unfollowed := true, recurses := true, apart := false, narrowed := true }
def FnRunPausedUptoSaid : Prop := fnRunPausedUptoRow.holds Try.pinned (OpenSpec.upto fnRunPausedSpec)

/-- 'laws.FnSlack', WHERE WHAT IT READS IS OF BULK AT MOST 1048576: true; the input reads as it did. -/
def fnSlackUptoRow : OpenClaim := { program := "ytdmoafmgeipenaa", sum := "9a9058c776adc70e20ad247e2c70f0bec7697cc9c005f9b5b83d562925162125", func := "loop.example/deadlinescheduler/laws.FnSlack", spec := "fnSlack", unfollowed := true, recurses := true, apart := false, narrowed := true }
def FnSlackUptoSaid : Prop := fnSlackUptoRow.holds Try.pinned (OpenSpec.upto fnSlackSpec)

/-- 'laws.FnExactRunPaused', WHERE WHAT IT READS IS OF BULK AT MOST 1048576: true; the input reads as it did. -/
def fnExactRunPausedUptoRow : OpenClaim := { program := "ytdmoafmgeipenaa", sum := "9a9058c776adc70e20ad247e2c70f0bec7697cc9c005f9b5b83d562925162125", func := "loop.example/deadlinescheduler/laws.FnExactRunPaused", spec := "fnExactRunPaused", unfollowed := true, recurses := true, apart := false, narrowed := true }
def FnExactRunPausedUptoSaid : Prop := fnExactRunPausedUptoRow.holds Try.pinned (OpenSpec.upto fnExactRunPausedSpec)

/-- 'laws.FnStealSlack', WHERE WHAT IT READS IS OF BULK AT MOST 1048576: true; the input reads as it did. -/
def fnStealSlackUptoRow : OpenClaim := { program := "ytdmoafmgeipenaa", sum := "9a9058c776adc70e20ad247e2c70f0bec7697cc9c005f9b5b83d562925162125", func := "loop.example/deadlinescheduler/laws.FnStealSlack", spec := "fnStealSlack", unfollowed := true, recurses := true, apart := false, narrowed := true }
def FnStealSlackUptoSaid : Prop := fnStealSlackUptoRow.holds Try.pinned (OpenSpec.upto fnStealSlackSpec)

/-- 'laws.FnRunEdfChoice', WHERE WHAT IT READS IS OF BULK AT MOST 1048576: true; the input reads as it did. -/
def fnRunEdfChoiceUptoRow : OpenClaim := { program := "ytdmoafmgeipenaa", sum := "9a9058c776adc70e20ad247e2c70f0bec7697cc9c005f9b5b83d562925162125", func := "loop.example/deadlinescheduler/laws.FnRunEdfChoice", spec := "fnRunEdfChoice", unfollowed := true, recurses := true, apart := false, narrowed := true }
def FnRunEdfChoiceUptoSaid : Prop := fnRunEdfChoiceUptoRow.holds Try.pinned (OpenSpec.upto fnRunEdfChoiceSpec)

/-- 'laws.FnRunEdfPast', WHERE WHAT IT READS IS OF BULK AT MOST 1048576: true; the input reads as it did. -/
def fnRunEdfPastUptoRow : OpenClaim := { program := "ytdmoafmgeipenaa", sum := "9a9058c776adc70e20ad247e2c70f0bec7697cc9c005f9b5b83d562925162125", func := "loop.example/deadlinescheduler/laws.FnRunEdfPast", spec := "fnRunEdfPast", unfollowed := true, recurses := true, apart := false, narrowed := true }
def FnRunEdfPastUptoSaid : Prop := fnRunEdfPastUptoRow.holds Try.pinned (OpenSpec.upto fnRunEdfPastSpec)

/-- 'laws.FnRunEdf', WHERE WHAT IT READS IS OF BULK AT MOST 1048576: true; the input reads as it did. -/
def fnRunEdfUptoRow : OpenClaim := { program := "ytdmoafmgeipenaa", sum := "9a9058c776adc70e20ad247e2c70f0bec7697cc9c005f9b5b83d562925162125", func := "loop.example/deadlinescheduler/laws.FnRunEdf", spec := "fnRunEdf", unfollowed := true, recurses := true, apart := false, narrowed := true }
def FnRunEdfUptoSaid : Prop := fnRunEdfUptoRow.holds Try.pinned (OpenSpec.upto fnRunEdfSpec)

/-- 'laws.FnEdfSafe', WHERE WHAT IT READS IS OF BULK AT MOST 1048576: true; the input reads as it did. -/
def fnEdfSafeUptoRow : OpenClaim := { program := "ytdmoafmgeipenaa", sum := "9a9058c776adc70e20ad247e2c70f0bec7697cc9c005f9b5b83d562925162125", func := "loop.example/deadlinescheduler/laws.FnEdfSafe", spec := "fnEdfSafe", unfollowed := true, recurses := true, apart := false, narrowed := true }
def FnEdfSafeUptoSaid : Prop := fnEdfSafeUptoRow.holds Try.pinned (OpenSpec.upto fnEdfSafeSpec)

end Rows
end Go.Proofs.Ytdmoafmgeipenaa
