/-
  No cell of these rows narrows 'for every input' (looked for: loops, veiled, ifaces, maps, wideKeys, modest, calm, conditions, laid).
  DERIVED. THE GIVEN ROWS OF THIS SEAT. 7 by the template 'for every input the law returns true; each argument reads behind the call as it read before'; 0 by the template 'total and deterministic' (their statements: YtnibgmmoebmnlaaTotals.lean).
  GIVEN WITH THE SEED: the statements are not yours to turn. If you find one false, say at which input.
  Laid BY PROGRAM, IN A SANDBOX (cutbox-rows.mjs): the forced cells as the released guide's own fill.sh prints them over the translation cfa0ec213e4d3457… (all of the seat's roots in one cut). By AI agents, Wed Nov 11 2026. No macro, syntax, notation, axiom, sorry.
-/
import Derived.Test.YtnibgmmoebmnlaaChecked
import GoSem.Claim
import GoSem.ClaimJoined
import GoSem.ClaimMapViews
import Derived.JoinedTies
import Derived.KernelRfl
namespace Go.Proofs.Ytnibgmmoebmnlaa
/- THE CELL 'sum', in the pinned program and in every row, IS THE sha256 OF THE DUMP (.gsa) THAT YtnibgmmoebmnlaaProg.lean LOADS. Nothing in Lean hashes anything: it is a label: what it is worth is what the hold of that sum in a sandbox is worth. -/
noncomputable def Try.pinned : Pinned := { name := "ytnibgmmoebmnlaa", sum := "cfa0ec213e4d3457dc7bff2d94c02f0d063f6285d36ff5aabb3d22efd205c01a", checked := Try.checked }
namespace Rows
def none {H : Type} : Left H := { results := [], args := [] }

/-- 'porismlaw08.SafetyMatchesReference': WHATEVER THE INPUT: true; the input reads as it did. -/
def safetyMatchesReferenceSpec : ChangeSpec := { name := "safetyMatchesReference", fn := fun _ => fun
  | [d1, d2, d3, d4] => { results := [.lit (.bool true)], args := [d1, d2, d3, d4] }
  | _ => none }
def safetyMatchesReferenceRow : OpenClaim := { program := "ytnibgmmoebmnlaa", sum := "cfa0ec213e4d3457dc7bff2d94c02f0d063f6285d36ff5aabb3d22efd205c01a", func := "porism/porismlaw08.SafetyMatchesReference", spec := "safetyMatchesReference", unfollowed := true, recurses := true, apart := false }
def SafetyMatchesReferenceSaid : Prop := safetyMatchesReferenceRow.holds Try.pinned (OpenSpec.ofChange safetyMatchesReferenceSpec)

/-- ITS FALSE NEIGHBOUR: 'it returns false'. Refute it at one input. -/
def safetyMatchesReferenceWrong : ChangeSpec := { name := "safetyMatchesReference", fn := fun _ => fun
  | [d1, d2, d3, d4] => { results := [.lit (.bool false)], args := [d1, d2, d3, d4] }
  | _ => none }
def SafetyMatchesReferenceWrongFalsely : Prop := safetyMatchesReferenceRow.holds Try.pinned (OpenSpec.ofChange safetyMatchesReferenceWrong)

/-- 'porismlaw08.SafetyLeast': WHATEVER THE INPUT: true; the input reads as it did. -/
def safetyLeastSpec : ChangeSpec := { name := "safetyLeast", fn := fun _ => fun
  | [d1, d2, d3] => { results := [.lit (.bool true)], args := [d1, d2, d3] }
  | _ => none }
def safetyLeastRow : OpenClaim := { program := "ytnibgmmoebmnlaa", sum := "cfa0ec213e4d3457dc7bff2d94c02f0d063f6285d36ff5aabb3d22efd205c01a", func := "porism/porismlaw08.SafetyLeast", spec := "safetyLeast", unfollowed := true, recurses := true, apart := false }
def SafetyLeastSaid : Prop := safetyLeastRow.holds Try.pinned (OpenSpec.ofChange safetyLeastSpec)

/-- ITS FALSE NEIGHBOUR: 'it returns false'. Refute it at one input. -/
def safetyLeastWrong : ChangeSpec := { name := "safetyLeast", fn := fun _ => fun
  | [d1, d2, d3] => { results := [.lit (.bool false)], args := [d1, d2, d3] }
  | _ => none }
def SafetyLeastWrongFalsely : Prop := safetyLeastRow.holds Try.pinned (OpenSpec.ofChange safetyLeastWrong)

/-- 'porismlaw08.SafetyGreedy': WHATEVER THE INPUT: true; the input reads as it did. -/
def safetyGreedySpec : ChangeSpec := { name := "safetyGreedy", fn := fun _ => fun
  | [d1, d2] => { results := [.lit (.bool true)], args := [d1, d2] }
  | _ => none }
def safetyGreedyRow : OpenClaim := { program := "ytnibgmmoebmnlaa", sum := "cfa0ec213e4d3457dc7bff2d94c02f0d063f6285d36ff5aabb3d22efd205c01a", func := "porism/porismlaw08.SafetyGreedy", spec := "safetyGreedy", unfollowed := true, recurses := true, apart := false }
def SafetyGreedySaid : Prop := safetyGreedyRow.holds Try.pinned (OpenSpec.ofChange safetyGreedySpec)

/-- ITS FALSE NEIGHBOUR: 'it returns false'. Refute it at one input. -/
def safetyGreedyWrong : ChangeSpec := { name := "safetyGreedy", fn := fun _ => fun
  | [d1, d2] => { results := [.lit (.bool false)], args := [d1, d2] }
  | _ => none }
def SafetyGreedyWrongFalsely : Prop := safetyGreedyRow.holds Try.pinned (OpenSpec.ofChange safetyGreedyWrong)

/-- 'porismlaw08.SafetyMonotone': WHATEVER THE INPUT: true; the input reads as it did. -/
def safetyMonotoneSpec : ChangeSpec := { name := "safetyMonotone", fn := fun _ => fun
  | [d1, d2, d3, d4, d5, d6] => { results := [.lit (.bool true)], args := [d1, d2, d3, d4, d5, d6] }
  | _ => none }
def safetyMonotoneRow : OpenClaim := { program := "ytnibgmmoebmnlaa", sum := "cfa0ec213e4d3457dc7bff2d94c02f0d063f6285d36ff5aabb3d22efd205c01a", func := "porism/porismlaw08.SafetyMonotone", spec := "safetyMonotone", unfollowed := true, recurses := true, apart := false }
def SafetyMonotoneSaid : Prop := safetyMonotoneRow.holds Try.pinned (OpenSpec.ofChange safetyMonotoneSpec)

/-- ITS FALSE NEIGHBOUR: 'it returns false'. Refute it at one input. -/
def safetyMonotoneWrong : ChangeSpec := { name := "safetyMonotone", fn := fun _ => fun
  | [d1, d2, d3, d4, d5, d6] => { results := [.lit (.bool false)], args := [d1, d2, d3, d4, d5, d6] }
  | _ => none }
def SafetyMonotoneWrongFalsely : Prop := safetyMonotoneRow.holds Try.pinned (OpenSpec.ofChange safetyMonotoneWrong)

/-- 'porismlaw08.SafetyArrangement': WHATEVER THE INPUT: true; the input reads as it did. -/
def safetyArrangementSpec : ChangeSpec := { name := "safetyArrangement", fn := fun _ => fun
  | [d1, d2] => { results := [.lit (.bool true)], args := [d1, d2] }
  | _ => none }
def safetyArrangementRow : OpenClaim := { program := "ytnibgmmoebmnlaa", sum := "cfa0ec213e4d3457dc7bff2d94c02f0d063f6285d36ff5aabb3d22efd205c01a", func := "porism/porismlaw08.SafetyArrangement", spec := "safetyArrangement", unfollowed := true, recurses := true, apart := false }
def SafetyArrangementSaid : Prop := safetyArrangementRow.holds Try.pinned (OpenSpec.ofChange safetyArrangementSpec)

/-- ITS FALSE NEIGHBOUR: 'it returns false'. Refute it at one input. -/
def safetyArrangementWrong : ChangeSpec := { name := "safetyArrangement", fn := fun _ => fun
  | [d1, d2] => { results := [.lit (.bool false)], args := [d1, d2] }
  | _ => none }
def SafetyArrangementWrongFalsely : Prop := safetyArrangementRow.holds Try.pinned (OpenSpec.ofChange safetyArrangementWrong)

/-- 'porismlaw08.SafetyNames': WHATEVER THE INPUT: true; the input reads as it did. -/
def safetyNamesSpec : ChangeSpec := { name := "safetyNames", fn := fun _ => fun
  | [d1, d2, d3] => { results := [.lit (.bool true)], args := [d1, d2, d3] }
  | _ => none }
def safetyNamesRow : OpenClaim := { program := "ytnibgmmoebmnlaa", sum := "cfa0ec213e4d3457dc7bff2d94c02f0d063f6285d36ff5aabb3d22efd205c01a", func := "porism/porismlaw08.SafetyNames", spec := "safetyNames", unfollowed := true, recurses := true, apart := false }
def SafetyNamesSaid : Prop := safetyNamesRow.holds Try.pinned (OpenSpec.ofChange safetyNamesSpec)

/-- ITS FALSE NEIGHBOUR: 'it returns false'. Refute it at one input. -/
def safetyNamesWrong : ChangeSpec := { name := "safetyNames", fn := fun _ => fun
  | [d1, d2, d3] => { results := [.lit (.bool false)], args := [d1, d2, d3] }
  | _ => none }
def SafetyNamesWrongFalsely : Prop := safetyNamesRow.holds Try.pinned (OpenSpec.ofChange safetyNamesWrong)

/-- 'porismlaw08.SafetyVars': WHATEVER THE INPUT: true; the input reads as it did. -/
def safetyVarsSpec : ChangeSpec := { name := "safetyVars", fn := fun _ => fun
  | [d1, d2, d3] => { results := [.lit (.bool true)], args := [d1, d2, d3] }
  | _ => none }
def safetyVarsRow : OpenClaim := { program := "ytnibgmmoebmnlaa", sum := "cfa0ec213e4d3457dc7bff2d94c02f0d063f6285d36ff5aabb3d22efd205c01a", func := "porism/porismlaw08.SafetyVars", spec := "safetyVars", unfollowed := true, recurses := true, apart := false }
def SafetyVarsSaid : Prop := safetyVarsRow.holds Try.pinned (OpenSpec.ofChange safetyVarsSpec)

/-- ITS FALSE NEIGHBOUR: 'it returns false'. Refute it at one input. -/
def safetyVarsWrong : ChangeSpec := { name := "safetyVars", fn := fun _ => fun
  | [d1, d2, d3] => { results := [.lit (.bool false)], args := [d1, d2, d3] }
  | _ => none }
def SafetyVarsWrongFalsely : Prop := safetyVarsRow.holds Try.pinned (OpenSpec.ofChange safetyVarsWrong)

/- THE SECOND FORM. 'bulk': how many values and letters a reading holds, each counted each time it is reached (what is shared counts as often as it is met; a slice's spare places count too). A statement '..UptoSaid' is the law's where the arguments, and the package variables that the reading takes, are together of bulk at most 1048576: NARROWER than '..Said'. Prove '..Said' where nothing that the law and all that it calls make is longer than what came in: it says more and counts as full. Else prove '..UptoSaid'. A law counts once. -/
mutual
def uptoBulk {H : Type} : DataW H → Nat
  | .lit (.string bytes) => bytes.length + 1
  | .lit _ => 1
  | .nil => 1
  | .ptr d => uptoBulk d + 1
  | .slice elems spare => uptoBulkAll elems + uptoBulkAll spare + 1
  | .agg parts => uptoBulkAll parts + 1
  | .iface _ d => uptoBulk d + 1
  | .map entries => uptoBulkEntries entries + 1
  | .held _ => 1
def uptoBulkAll {H : Type} : List (DataW H) → Nat
  | [] => 0
  | d :: r => uptoBulk d + uptoBulkAll r
def uptoBulkEntries {H : Type} : List (Lit × DataW H) → Nat
  | [] => 0
  | x :: r => uptoBulkEntry x + uptoBulkEntries r
def uptoBulkEntry {H : Type} : Lit × DataW H → Nat
  | (.string bytes, d) => bytes.length + uptoBulk d + 1
  | (_, d) => uptoBulk d + 1
 end
def uptoSmall : (H : Type) → List (DataW H) → Bool := fun _ ds => decide (uptoBulkAll ds ≤ 1048576)
def OpenSpec.upto (s : _root_.Go.ChangeSpec) : _root_.Go.OpenSpec := { _root_.Go.OpenSpec.ofChange s with cond := some uptoSmall }

/-- 'porismlaw08.SafetyMatchesReference', WHERE WHAT IT READS IS OF BULK AT MOST 1048576: true; the input reads as it did. -/
def safetyMatchesReferenceUptoRow : OpenClaim := { program := "ytnibgmmoebmnlaa", sum := "cfa0ec213e4d3457dc7bff2d94c02f0d063f6285d36ff5aabb3d22efd205c01a", func := "porism/porismlaw08.SafetyMatchesReference", spec := "safetyMatchesReference", unfollowed := true, recurses := true, apart := false, narrowed := true }
def SafetyMatchesReferenceUptoSaid : Prop := safetyMatchesReferenceUptoRow.holds Try.pinned (OpenSpec.upto safetyMatchesReferenceSpec)

/-- 'porismlaw08.SafetyLeast', WHERE WHAT IT READS IS OF BULK AT MOST 1048576: true; the input reads as it did. -/
def safetyLeastUptoRow : OpenClaim := { program := "ytnibgmmoebmnlaa", sum := "cfa0ec213e4d3457dc7bff2d94c02f0d063f6285d36ff5aabb3d22efd205c01a", func := "porism/porismlaw08.SafetyLeast", spec := "safetyLeast", unfollowed := true, recurses := true, apart := false, narrowed := true }
def SafetyLeastUptoSaid : Prop := safetyLeastUptoRow.holds Try.pinned (OpenSpec.upto safetyLeastSpec)

/-- 'porismlaw08.SafetyGreedy', WHERE WHAT IT READS IS OF BULK AT MOST 1048576: true; the input reads as it did. -/
def safetyGreedyUptoRow : OpenClaim := { program := "ytnibgmmoebmnlaa", sum := "cfa0ec213e4d3457dc7bff2d94c02f0d063f6285d36ff5aabb3d22efd205c01a", func := "porism/porismlaw08.SafetyGreedy", spec := "safetyGreedy", unfollowed := true, recurses := true, apart := false, narrowed := true }
def SafetyGreedyUptoSaid : Prop := safetyGreedyUptoRow.holds Try.pinned (OpenSpec.upto safetyGreedySpec)

/-- 'porismlaw08.SafetyMonotone', WHERE WHAT IT READS IS OF BULK AT MOST 1048576: true; the input reads as it did. -/
def safetyMonotoneUptoRow : OpenClaim := { program := "ytnibgmmoebmnlaa", sum := "cfa0ec213e4d3457dc7bff2d94c02f0d063f6285d36ff5aabb3d22efd205c01a", func := "porism/porismlaw08.SafetyMonotone", spec := "safetyMonotone", unfollowed := true, recurses := true, apart := false, narrowed := true }
def SafetyMonotoneUptoSaid : Prop := safetyMonotoneUptoRow.holds Try.pinned (OpenSpec.upto safetyMonotoneSpec)

/-- 'porismlaw08.SafetyArrangement', WHERE WHAT IT READS IS OF BULK AT MOST 1048576: true; the input reads as it did. -/
def safetyArrangementUptoRow : OpenClaim := { program := "ytnibgmmoebmnlaa", sum := "cfa0ec213e4d3457dc7bff2d94c02f0d063f6285d36ff5aabb3d22efd205c01a", func := "porism/porismlaw08.SafetyArrangement", spec := "safetyArrangement", unfollowed := true, recurses := true, apart := false, narrowed := true }
def SafetyArrangementUptoSaid : Prop := safetyArrangementUptoRow.holds Try.pinned (OpenSpec.upto safetyArrangementSpec)

/-- 'porismlaw08.SafetyNames', WHERE WHAT IT READS IS OF BULK AT MOST 1048576: true; the input reads as it did. -/
def safetyNamesUptoRow : OpenClaim := { program := "ytnibgmmoebmnlaa", sum := "cfa0ec213e4d3457dc7bff2d94c02f0d063f6285d36ff5aabb3d22efd205c01a", func := "porism/porismlaw08.SafetyNames", spec := "safetyNames", unfollowed := true, recurses := true, apart := false, narrowed := true }
def SafetyNamesUptoSaid : Prop := safetyNamesUptoRow.holds Try.pinned (OpenSpec.upto safetyNamesSpec)

/-- 'porismlaw08.SafetyVars', WHERE WHAT IT READS IS OF BULK AT MOST 1048576: true; the input reads as it did. -/
def safetyVarsUptoRow : OpenClaim := { program := "ytnibgmmoebmnlaa", sum := "cfa0ec213e4d3457dc7bff2d94c02f0d063f6285d36ff5aabb3d22efd205c01a", func := "porism/porismlaw08.SafetyVars", spec := "safetyVars", unfollowed := true, recurses := true, apart := false, narrowed := true }
def SafetyVarsUptoSaid : Prop := safetyVarsUptoRow.holds Try.pinned (OpenSpec.upto safetyVarsSpec)

end Rows
end Go.Proofs.Ytnibgmmoebmnlaa
