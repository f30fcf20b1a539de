/-
  No cell of these rows narrows 'for every input' (looked for: loops, veiled, ifaces, maps, wideKeys, modest, calm, conditions, laid).
  DERIVED. THE GIVEN ROWS OF THIS SEAT. 14 by the template 'for every input the law returns true; each argument reads behind the call as it read before'; 0 by the template 'total and deterministic' (their statements: YtcembocnkndlhaaTotals.lean).
  GIVEN WITH THE SEED: the statements are not yours to turn. If you find one false, say at which input.
  Laid BY PROGRAM, IN A SANDBOX (cutbox-rows.mjs): the forced cells as the released guide's own fill.sh prints them over the translation 3577751942f29faf… (all of the seat's roots in one cut). By AI agents, Wed Nov 11 2026. No macro, syntax, notation, axiom, sorry.
-/
import Derived.Test.YtcembocnkndlhaaChecked
import GoSem.Claim
import GoSem.ClaimJoined
import GoSem.ClaimMapViews
import Derived.JoinedTies
import Derived.KernelRfl
namespace Go.Proofs.Ytcembocnkndlhaa
/- THE CELL 'sum', in the pinned program and in every row, IS THE sha256 OF THE DUMP (.gsa) THAT YtcembocnkndlhaaProg.lean LOADS. Nothing in Lean hashes anything: it is a label: what it is worth is what the hold of that sum in a sandbox is worth. -/
noncomputable def Try.pinned : Pinned := { name := "ytcembocnkndlhaa", sum := "3577751942f29faf39b0ebe64f40e2bbd9ac08714a86d731e26a77020522b79f", checked := Try.checked }
namespace Rows
def none {H : Type} : Left H := { results := [], args := [] }

/-- 'porismlaw35.DiskMatchesReference': WHATEVER THE INPUT: true; the input reads as it did. -/
def diskMatchesReferenceSpec : ChangeSpec := { name := "diskMatchesReference", fn := fun _ => fun
  | [d1, d2, d3, d4, d5] => { results := [.lit (.bool true)], args := [d1, d2, d3, d4, d5] }
  | _ => none }
def diskMatchesReferenceRow : OpenClaim := { program := "ytcembocnkndlhaa", sum := "3577751942f29faf39b0ebe64f40e2bbd9ac08714a86d731e26a77020522b79f", func := "porism/porismlaw35.DiskMatchesReference", spec := "diskMatchesReference", unfollowed := true, recurses := true, apart := false }
def DiskMatchesReferenceSaid : Prop := diskMatchesReferenceRow.holds Try.pinned (OpenSpec.ofChange diskMatchesReferenceSpec)

/-- ITS FALSE NEIGHBOUR: 'it returns false'. Refute it at one input. -/
def diskMatchesReferenceWrong : ChangeSpec := { name := "diskMatchesReference", fn := fun _ => fun
  | [d1, d2, d3, d4, d5] => { results := [.lit (.bool false)], args := [d1, d2, d3, d4, d5] }
  | _ => none }
def DiskMatchesReferenceWrongFalsely : Prop := diskMatchesReferenceRow.holds Try.pinned (OpenSpec.ofChange diskMatchesReferenceWrong)

/-- 'porismlaw35.DiskReads': WHATEVER THE INPUT: true; the input reads as it did. -/
def diskReadsSpec : ChangeSpec := { name := "diskReads", fn := fun _ => fun
  | [d1, d2, d3, d4] => { results := [.lit (.bool true)], args := [d1, d2, d3, d4] }
  | _ => none }
def diskReadsRow : OpenClaim := { program := "ytcembocnkndlhaa", sum := "3577751942f29faf39b0ebe64f40e2bbd9ac08714a86d731e26a77020522b79f", func := "porism/porismlaw35.DiskReads", spec := "diskReads", unfollowed := true, recurses := true, apart := false }
def DiskReadsSaid : Prop := diskReadsRow.holds Try.pinned (OpenSpec.ofChange diskReadsSpec)

/-- ITS FALSE NEIGHBOUR: 'it returns false'. Refute it at one input. -/
def diskReadsWrong : ChangeSpec := { name := "diskReads", fn := fun _ => fun
  | [d1, d2, d3, d4] => { results := [.lit (.bool false)], args := [d1, d2, d3, d4] }
  | _ => none }
def DiskReadsWrongFalsely : Prop := diskReadsRow.holds Try.pinned (OpenSpec.ofChange diskReadsWrong)

/-- 'porismlaw35.DiskSyncs': WHATEVER THE INPUT: true; the input reads as it did. -/
def diskSyncsSpec : ChangeSpec := { name := "diskSyncs", fn := fun _ => fun
  | [d1, d2, d3, d4] => { results := [.lit (.bool true)], args := [d1, d2, d3, d4] }
  | _ => none }
def diskSyncsRow : OpenClaim := { program := "ytcembocnkndlhaa", sum := "3577751942f29faf39b0ebe64f40e2bbd9ac08714a86d731e26a77020522b79f", func := "porism/porismlaw35.DiskSyncs", spec := "diskSyncs", unfollowed := true, recurses := true, apart := false }
def DiskSyncsSaid : Prop := diskSyncsRow.holds Try.pinned (OpenSpec.ofChange diskSyncsSpec)

/-- ITS FALSE NEIGHBOUR: 'it returns false'. Refute it at one input. -/
def diskSyncsWrong : ChangeSpec := { name := "diskSyncs", fn := fun _ => fun
  | [d1, d2, d3, d4] => { results := [.lit (.bool false)], args := [d1, d2, d3, d4] }
  | _ => none }
def DiskSyncsWrongFalsely : Prop := diskSyncsRow.holds Try.pinned (OpenSpec.ofChange diskSyncsWrong)

/-- 'porismlaw35.DiskCrashes': WHATEVER THE INPUT: true; the input reads as it did. -/
def diskCrashesSpec : ChangeSpec := { name := "diskCrashes", fn := fun _ => fun
  | [d1, d2, d3, d4] => { results := [.lit (.bool true)], args := [d1, d2, d3, d4] }
  | _ => none }
def diskCrashesRow : OpenClaim := { program := "ytcembocnkndlhaa", sum := "3577751942f29faf39b0ebe64f40e2bbd9ac08714a86d731e26a77020522b79f", func := "porism/porismlaw35.DiskCrashes", spec := "diskCrashes", unfollowed := true, recurses := true, apart := false }
def DiskCrashesSaid : Prop := diskCrashesRow.holds Try.pinned (OpenSpec.ofChange diskCrashesSpec)

/-- ITS FALSE NEIGHBOUR: 'it returns false'. Refute it at one input. -/
def diskCrashesWrong : ChangeSpec := { name := "diskCrashes", fn := fun _ => fun
  | [d1, d2, d3, d4] => { results := [.lit (.bool false)], args := [d1, d2, d3, d4] }
  | _ => none }
def DiskCrashesWrongFalsely : Prop := diskCrashesRow.holds Try.pinned (OpenSpec.ofChange diskCrashesWrong)

/-- 'porismlaw35.DiskOrder': WHATEVER THE INPUT: true; the input reads as it did. -/
def diskOrderSpec : ChangeSpec := { name := "diskOrder", fn := fun _ => fun
  | [d1, d2, d3, d4, d5, d6] => { results := [.lit (.bool true)], args := [d1, d2, d3, d4, d5, d6] }
  | _ => none }
def diskOrderRow : OpenClaim := { program := "ytcembocnkndlhaa", sum := "3577751942f29faf39b0ebe64f40e2bbd9ac08714a86d731e26a77020522b79f", func := "porism/porismlaw35.DiskOrder", spec := "diskOrder", unfollowed := true, recurses := true, apart := false }
def DiskOrderSaid : Prop := diskOrderRow.holds Try.pinned (OpenSpec.ofChange diskOrderSpec)

/-- ITS FALSE NEIGHBOUR: 'it returns false'. Refute it at one input. -/
def diskOrderWrong : ChangeSpec := { name := "diskOrder", fn := fun _ => fun
  | [d1, d2, d3, d4, d5, d6] => { results := [.lit (.bool false)], args := [d1, d2, d3, d4, d5, d6] }
  | _ => none }
def DiskOrderWrongFalsely : Prop := diskOrderRow.holds Try.pinned (OpenSpec.ofChange diskOrderWrong)

/-- 'porismlaw35.DiskStops': WHATEVER THE INPUT: true; the input reads as it did. -/
def diskStopsSpec : ChangeSpec := { name := "diskStops", fn := fun _ => fun
  | [d1, d2, d3, d4, d5] => { results := [.lit (.bool true)], args := [d1, d2, d3, d4, d5] }
  | _ => none }
def diskStopsRow : OpenClaim := { program := "ytcembocnkndlhaa", sum := "3577751942f29faf39b0ebe64f40e2bbd9ac08714a86d731e26a77020522b79f", func := "porism/porismlaw35.DiskStops", spec := "diskStops", unfollowed := true, recurses := true, apart := false }
def DiskStopsSaid : Prop := diskStopsRow.holds Try.pinned (OpenSpec.ofChange diskStopsSpec)

/-- ITS FALSE NEIGHBOUR: 'it returns false'. Refute it at one input. -/
def diskStopsWrong : ChangeSpec := { name := "diskStops", fn := fun _ => fun
  | [d1, d2, d3, d4, d5] => { results := [.lit (.bool false)], args := [d1, d2, d3, d4, d5] }
  | _ => none }
def DiskStopsWrongFalsely : Prop := diskStopsRow.holds Try.pinned (OpenSpec.ofChange diskStopsWrong)

/-- 'porismlaw35.DiskForm': WHATEVER THE INPUT: true; the input reads as it did. -/
def diskFormSpec : ChangeSpec := { name := "diskForm", fn := fun _ => fun
  | [d1, d2, d3, d4, d5] => { results := [.lit (.bool true)], args := [d1, d2, d3, d4, d5] }
  | _ => none }
def diskFormRow : OpenClaim := { program := "ytcembocnkndlhaa", sum := "3577751942f29faf39b0ebe64f40e2bbd9ac08714a86d731e26a77020522b79f", func := "porism/porismlaw35.DiskForm", spec := "diskForm", unfollowed := true, recurses := true, apart := false }
def DiskFormSaid : Prop := diskFormRow.holds Try.pinned (OpenSpec.ofChange diskFormSpec)

/-- ITS FALSE NEIGHBOUR: 'it returns false'. Refute it at one input. -/
def diskFormWrong : ChangeSpec := { name := "diskForm", fn := fun _ => fun
  | [d1, d2, d3, d4, d5] => { results := [.lit (.bool false)], args := [d1, d2, d3, d4, d5] }
  | _ => none }
def DiskFormWrongFalsely : Prop := diskFormRow.holds Try.pinned (OpenSpec.ofChange diskFormWrong)

/-- 'porismlaw36.LogAppends': WHATEVER THE INPUT: true; the input reads as it did. -/
def logAppendsSpec : ChangeSpec := { name := "logAppends", fn := fun _ => fun
  | [d1, d2, d3, d4] => { results := [.lit (.bool true)], args := [d1, d2, d3, d4] }
  | _ => none }
def logAppendsRow : OpenClaim := { program := "ytcembocnkndlhaa", sum := "3577751942f29faf39b0ebe64f40e2bbd9ac08714a86d731e26a77020522b79f", func := "porism/porismlaw36.LogAppends", spec := "logAppends", unfollowed := true, recurses := true, apart := false }
def LogAppendsSaid : Prop := logAppendsRow.holds Try.pinned (OpenSpec.ofChange logAppendsSpec)

/-- ITS FALSE NEIGHBOUR: 'it returns false'. Refute it at one input. -/
def logAppendsWrong : ChangeSpec := { name := "logAppends", fn := fun _ => fun
  | [d1, d2, d3, d4] => { results := [.lit (.bool false)], args := [d1, d2, d3, d4] }
  | _ => none }
def LogAppendsWrongFalsely : Prop := logAppendsRow.holds Try.pinned (OpenSpec.ofChange logAppendsWrong)

/-- 'porismlaw36.LogSums': WHATEVER THE INPUT: true; the input reads as it did. -/
def logSumsSpec : ChangeSpec := { name := "logSums", fn := fun _ => fun
  | [d1, d2, d3] => { results := [.lit (.bool true)], args := [d1, d2, d3] }
  | _ => none }
def logSumsRow : OpenClaim := { program := "ytcembocnkndlhaa", sum := "3577751942f29faf39b0ebe64f40e2bbd9ac08714a86d731e26a77020522b79f", func := "porism/porismlaw36.LogSums", spec := "logSums", unfollowed := true, recurses := true, apart := false }
def LogSumsSaid : Prop := logSumsRow.holds Try.pinned (OpenSpec.ofChange logSumsSpec)

/-- ITS FALSE NEIGHBOUR: 'it returns false'. Refute it at one input. -/
def logSumsWrong : ChangeSpec := { name := "logSums", fn := fun _ => fun
  | [d1, d2, d3] => { results := [.lit (.bool false)], args := [d1, d2, d3] }
  | _ => none }
def LogSumsWrongFalsely : Prop := logSumsRow.holds Try.pinned (OpenSpec.ofChange logSumsWrong)

/-- 'porismlaw36.LogSeveral': WHATEVER THE INPUT: true; the input reads as it did. -/
def logSeveralSpec : ChangeSpec := { name := "logSeveral", fn := fun _ => fun
  | [d1, d2, d3, d4] => { results := [.lit (.bool true)], args := [d1, d2, d3, d4] }
  | _ => none }
def logSeveralRow : OpenClaim := { program := "ytcembocnkndlhaa", sum := "3577751942f29faf39b0ebe64f40e2bbd9ac08714a86d731e26a77020522b79f", func := "porism/porismlaw36.LogSeveral", spec := "logSeveral", unfollowed := true, recurses := true, apart := false }
def LogSeveralSaid : Prop := logSeveralRow.holds Try.pinned (OpenSpec.ofChange logSeveralSpec)

/-- ITS FALSE NEIGHBOUR: 'it returns false'. Refute it at one input. -/
def logSeveralWrong : ChangeSpec := { name := "logSeveral", fn := fun _ => fun
  | [d1, d2, d3, d4] => { results := [.lit (.bool false)], args := [d1, d2, d3, d4] }
  | _ => none }
def LogSeveralWrongFalsely : Prop := logSeveralRow.holds Try.pinned (OpenSpec.ofChange logSeveralWrong)

/-- 'porismlaw36.LogMatchesReference': WHATEVER THE INPUT: true; the input reads as it did. -/
def logMatchesReferenceSpec : ChangeSpec := { name := "logMatchesReference", fn := fun _ => fun
  | [d1, d2, d3] => { results := [.lit (.bool true)], args := [d1, d2, d3] }
  | _ => none }
def logMatchesReferenceRow : OpenClaim := { program := "ytcembocnkndlhaa", sum := "3577751942f29faf39b0ebe64f40e2bbd9ac08714a86d731e26a77020522b79f", func := "porism/porismlaw36.LogMatchesReference", spec := "logMatchesReference", unfollowed := true, recurses := true, apart := false }
def LogMatchesReferenceSaid : Prop := logMatchesReferenceRow.holds Try.pinned (OpenSpec.ofChange logMatchesReferenceSpec)

/-- ITS FALSE NEIGHBOUR: 'it returns false'. Refute it at one input. -/
def logMatchesReferenceWrong : ChangeSpec := { name := "logMatchesReference", fn := fun _ => fun
  | [d1, d2, d3] => { results := [.lit (.bool false)], args := [d1, d2, d3] }
  | _ => none }
def LogMatchesReferenceWrongFalsely : Prop := logMatchesReferenceRow.holds Try.pinned (OpenSpec.ofChange logMatchesReferenceWrong)

/-- 'porismlaw36.LogClears': WHATEVER THE INPUT: true; the input reads as it did. -/
def logClearsSpec : ChangeSpec := { name := "logClears", fn := fun _ => fun
  | [d1, d2, d3] => { results := [.lit (.bool true)], args := [d1, d2, d3] }
  | _ => none }
def logClearsRow : OpenClaim := { program := "ytcembocnkndlhaa", sum := "3577751942f29faf39b0ebe64f40e2bbd9ac08714a86d731e26a77020522b79f", func := "porism/porismlaw36.LogClears", spec := "logClears", unfollowed := true, recurses := true, apart := false }
def LogClearsSaid : Prop := logClearsRow.holds Try.pinned (OpenSpec.ofChange logClearsSpec)

/-- ITS FALSE NEIGHBOUR: 'it returns false'. Refute it at one input. -/
def logClearsWrong : ChangeSpec := { name := "logClears", fn := fun _ => fun
  | [d1, d2, d3] => { results := [.lit (.bool false)], args := [d1, d2, d3] }
  | _ => none }
def LogClearsWrongFalsely : Prop := logClearsRow.holds Try.pinned (OpenSpec.ofChange logClearsWrong)

/-- 'porismlaw36.LogCrashes': WHATEVER THE INPUT: true; the input reads as it did. -/
def logCrashesSpec : ChangeSpec := { name := "logCrashes", fn := fun _ => fun
  | [d1, d2, d3, d4, d5] => { results := [.lit (.bool true)], args := [d1, d2, d3, d4, d5] }
  | _ => none }
def logCrashesRow : OpenClaim := { program := "ytcembocnkndlhaa", sum := "3577751942f29faf39b0ebe64f40e2bbd9ac08714a86d731e26a77020522b79f", func := "porism/porismlaw36.LogCrashes", spec := "logCrashes", unfollowed := true, recurses := true, apart := false }
def LogCrashesSaid : Prop := logCrashesRow.holds Try.pinned (OpenSpec.ofChange logCrashesSpec)

/-- ITS FALSE NEIGHBOUR: 'it returns false'. Refute it at one input. -/
def logCrashesWrong : ChangeSpec := { name := "logCrashes", fn := fun _ => fun
  | [d1, d2, d3, d4, d5] => { results := [.lit (.bool false)], args := [d1, d2, d3, d4, d5] }
  | _ => none }
def LogCrashesWrongFalsely : Prop := logCrashesRow.holds Try.pinned (OpenSpec.ofChange logCrashesWrong)

/-- 'porismlaw36.LogSyncs': WHATEVER THE INPUT: true; the input reads as it did. -/
def logSyncsSpec : ChangeSpec := { name := "logSyncs", fn := fun _ => fun
  | [d1, d2, d3, d4] => { results := [.lit (.bool true)], args := [d1, d2, d3, d4] }
  | _ => none }
def logSyncsRow : OpenClaim := { program := "ytcembocnkndlhaa", sum := "3577751942f29faf39b0ebe64f40e2bbd9ac08714a86d731e26a77020522b79f", func := "porism/porismlaw36.LogSyncs", spec := "logSyncs", unfollowed := true, recurses := true, apart := false }
def LogSyncsSaid : Prop := logSyncsRow.holds Try.pinned (OpenSpec.ofChange logSyncsSpec)

/-- ITS FALSE NEIGHBOUR: 'it returns false'. Refute it at one input. -/
def logSyncsWrong : ChangeSpec := { name := "logSyncs", fn := fun _ => fun
  | [d1, d2, d3, d4] => { results := [.lit (.bool false)], args := [d1, d2, d3, d4] }
  | _ => none }
def LogSyncsWrongFalsely : Prop := logSyncsRow.holds Try.pinned (OpenSpec.ofChange logSyncsWrong)

/- THE SECOND FORM. 'bulk': how many values and letters a reading holds, each counted each time it is reached (what is shared counts as often as it is met; a slice's spare places count too). A statement '..UptoSaid' is the law's where the arguments, and the package variables that the reading takes, are together of bulk at most 1048576: NARROWER than '..Said'. Prove '..Said' where nothing that the law and all that it calls make is longer than what came in: it says more and counts as full. Else prove '..UptoSaid'. A law counts once. -/
mutual
def uptoBulk {H : Type} : DataW H → Nat
  | .lit (.string bytes) => bytes.length + 1
  | .lit _ => 1
  | .nil => 1
  | .ptr d => uptoBulk d + 1
  | .slice elems spare => uptoBulkAll elems + uptoBulkAll spare + 1
  | .agg parts => uptoBulkAll parts + 1
  | .iface _ d => uptoBulk d + 1
  | .map entries => uptoBulkEntries entries + 1
  | .held _ => 1
def uptoBulkAll {H : Type} : List (DataW H) → Nat
  | [] => 0
  | d :: r => uptoBulk d + uptoBulkAll r
def uptoBulkEntries {H : Type} : List (Lit × DataW H) → Nat
  | [] => 0
  | x :: r => uptoBulkEntry x + uptoBulkEntries r
def uptoBulkEntry {H : Type} : Lit × DataW H → Nat
  | (.string bytes, d) => bytes.length + uptoBulk d + 1
  | (_, d) => uptoBulk d + 1
 end
def uptoSmall : (H : Type) → List (DataW H) → Bool := fun _ ds => decide (uptoBulkAll ds ≤ 1048576)
def OpenSpec.upto (s : _root_.Go.ChangeSpec) : _root_.Go.OpenSpec := { _root_.Go.OpenSpec.ofChange s with cond := some uptoSmall }

/-- 'porismlaw35.DiskMatchesReference', WHERE WHAT IT READS IS OF BULK AT MOST 1048576: true; the input reads as it did. -/
def diskMatchesReferenceUptoRow : OpenClaim := { program := "ytcembocnkndlhaa", sum := "3577751942f29faf39b0ebe64f40e2bbd9ac08714a86d731e26a77020522b79f", func := "porism/porismlaw35.DiskMatchesReference", spec := "diskMatchesReference", unfollowed := true, recurses := true, apart := false, narrowed := true }
def DiskMatchesReferenceUptoSaid : Prop := diskMatchesReferenceUptoRow.holds Try.pinned (OpenSpec.upto diskMatchesReferenceSpec)

/-- 'porismlaw35.DiskReads', WHERE WHAT IT READS IS OF BULK AT MOST 1048576: true; the input reads as it did. -/
def diskReadsUptoRow : OpenClaim := { program := "ytcembocnkndlhaa", sum := "3577751942f29faf39b0ebe64f40e2bbd9ac08714a86d731e26a77020522b79f", func := "porism/porismlaw35.DiskReads", spec := "diskReads", unfollowed := true, recurses := true, apart := false, narrowed := true }
def DiskReadsUptoSaid : Prop := diskReadsUptoRow.holds Try.pinned (OpenSpec.upto diskReadsSpec)

/-- 'porismlaw35.DiskSyncs', WHERE WHAT IT READS IS OF BULK AT MOST 1048576: true; the input reads as it did. -/
def diskSyncsUptoRow : OpenClaim := { program := "ytcembocnkndlhaa", sum := "3577751942f29faf39b0ebe64f40e2bbd9ac08714a86d731e26a77020522b79f", func := "porism/porismlaw35.DiskSyncs", spec := "diskSyncs", unfollowed := true, recurses := true, apart := false, narrowed := true }
def DiskSyncsUptoSaid : Prop := diskSyncsUptoRow.holds Try.pinned (OpenSpec.upto diskSyncsSpec)

/-- 'porismlaw35.DiskCrashes', WHERE WHAT IT READS IS OF BULK AT MOST 1048576: true; the input reads as it did. -/
def diskCrashesUptoRow : OpenClaim := { program := "ytcembocnkndlhaa", sum := "3577751942f29faf39b0ebe64f40e2bbd9ac08714a86d731e26a77020522b79f", func := "porism/porismlaw35.DiskCrashes", spec := "diskCrashes", unfollowed := true, recurses := true, apart := false, narrowed := true }
def DiskCrashesUptoSaid : Prop := diskCrashesUptoRow.holds Try.pinned (OpenSpec.upto diskCrashesSpec)

/-- 'porismlaw35.DiskOrder', WHERE WHAT IT READS IS OF BULK AT MOST 1048576: true; the input reads as it did. -/
def diskOrderUptoRow : OpenClaim := { program := "ytcembocnkndlhaa", sum := "3577751942f29faf39b0ebe64f40e2bbd9ac08714a86d731e26a77020522b79f", func := "porism/porismlaw35.DiskOrder", spec := "diskOrder", unfollowed := true, recurses := true, apart := false, narrowed := true }
def DiskOrderUptoSaid : Prop := diskOrderUptoRow.holds Try.pinned (OpenSpec.upto diskOrderSpec)

/-- 'porismlaw35.DiskStops', WHERE WHAT IT READS IS OF BULK AT MOST 1048576: true; the input reads as it did. -/
def diskStopsUptoRow : OpenClaim := { program := "ytcembocnkndlhaa", sum := "3577751942f29faf39b0ebe64f40e2bbd9ac08714a86d731e26a77020522b79f", func := "porism/porismlaw35.DiskStops", spec := "diskStops", unfollowed := true, recurses := true, apart := false, narrowed := true }
def DiskStopsUptoSaid : Prop := diskStopsUptoRow.holds Try.pinned (OpenSpec.upto diskStopsSpec)

/-- 'porismlaw35.DiskForm', WHERE WHAT IT READS IS OF BULK AT MOST 1048576: true; the input reads as it did. -/
def diskFormUptoRow : OpenClaim := { program := "ytcembocnkndlhaa", sum := "3577751942f29faf39b0ebe64f40e2bbd9ac08714a86d731e26a77020522b79f", func := "porism/porismlaw35.DiskForm", spec := "diskForm", unfollowed := true, recurses := true, apart := false, narrowed := true }
def DiskFormUptoSaid : Prop := diskFormUptoRow.holds Try.pinned (OpenSpec.upto diskFormSpec)

/-- 'porismlaw36.LogAppends', WHERE WHAT IT READS IS OF BULK AT MOST 1048576: true; the input reads as it did. -/
def logAppendsUptoRow : OpenClaim := { program := "ytcembocnkndlhaa", sum := "3577751942f29faf39b0ebe64f40e2bbd9ac08714a86d731e26a77020522b79f", func := "porism/porismlaw36.LogAppends", spec := "logAppends", unfollowed := true, recurses := true, apart := false, narrowed := true }
def LogAppendsUptoSaid : Prop := logAppendsUptoRow.holds Try.pinned (OpenSpec.upto logAppendsSpec)

/-- 'porismlaw36.LogSums', WHERE WHAT IT READS IS OF BULK AT MOST 1048576: true; the input reads as it did. -/
def logSumsUptoRow : OpenClaim := { program := "ytcembocnkndlhaa", sum := "3577751942f29faf39b0ebe64f40e2bbd9ac08714a86d731e26a77020522b79f", func := "porism/porismlaw36.LogSums", spec := "logSums", unfollowed := true, recurses := true, apart := false, narrowed := true }
def LogSumsUptoSaid : Prop := logSumsUptoRow.holds Try.pinned (OpenSpec.upto logSumsSpec)

/-- 'porismlaw36.LogSeveral', WHERE WHAT IT READS IS OF BULK AT MOST 1048576: true; the input reads as it did. -/
def logSeveralUptoRow : OpenClaim := { program := "ytcembocnkndlhaa", sum := "3577751942f29faf39b0ebe64f40e2bbd9ac08714a86d731e26a77020522b79f", func := "porism/porismlaw36.LogSeveral", spec := "logSeveral", unfollowed := true, recurses := true, apart := false, narrowed := true }
def LogSeveralUptoSaid : Prop := logSeveralUptoRow.holds Try.pinned (OpenSpec.upto logSeveralSpec)

/-- 'porismlaw36.LogMatchesReference', WHERE WHAT IT READS IS OF BULK AT MOST 1048576: true; the input reads as it did. -/
def logMatchesReferenceUptoRow : OpenClaim := { program := "ytcembocnkndlhaa", sum := "3577751942f29faf39b0ebe64f40e2bbd9ac08714a86d731e26a77020522b79f", func := "porism/porismlaw36.LogMatchesReference", spec := "logMatchesReference", unfollowed := true, recurses := true, apart := false, narrowed := true }
def LogMatchesReferenceUptoSaid : Prop := logMatchesReferenceUptoRow.holds Try.pinned (OpenSpec.upto logMatchesReferenceSpec)

/-- 'porismlaw36.LogClears', WHERE WHAT IT READS IS OF BULK AT MOST 1048576: true; the input reads as it did. -/
def logClearsUptoRow : OpenClaim := { program := "ytcembocnkndlhaa", sum := "3577751942f29faf39b0ebe64f40e2bbd9ac08714a86d731e26a77020522b79f", func := "porism/porismlaw36.LogClears", spec := "logClears", unfollowed := true, recurses := true, apart := false, narrowed := true }
def LogClearsUptoSaid : Prop := logClearsUptoRow.holds Try.pinned (OpenSpec.upto logClearsSpec)

/-- 'porismlaw36.LogCrashes', WHERE WHAT IT READS IS OF BULK AT MOST 1048576: true; the input reads as it did. -/
def logCrashesUptoRow : OpenClaim := { program := "ytcembocnkndlhaa", sum := "3577751942f29faf39b0ebe64f40e2bbd9ac08714a86d731e26a77020522b79f", func := "porism/porismlaw36.LogCrashes", spec := "logCrashes", unfollowed := true, recurses := true, apart := false, narrowed := true }
def LogCrashesUptoSaid : Prop := logCrashesUptoRow.holds Try.pinned (OpenSpec.upto logCrashesSpec)

/-- 'porismlaw36.LogSyncs', WHERE WHAT IT READS IS OF BULK AT MOST 1048576: true; the input reads as it did. -/
def logSyncsUptoRow : OpenClaim := { program := "ytcembocnkndlhaa", sum := "3577751942f29faf39b0ebe64f40e2bbd9ac08714a86d731e26a77020522b79f", func := "porism/porismlaw36.LogSyncs", spec := "logSyncs", unfollowed := true, recurses := true, apart := false, narrowed := true }
def LogSyncsUptoSaid : Prop := logSyncsUptoRow.holds Try.pinned (OpenSpec.upto logSyncsSpec)

end Rows
end Go.Proofs.Ytcembocnkndlhaa
