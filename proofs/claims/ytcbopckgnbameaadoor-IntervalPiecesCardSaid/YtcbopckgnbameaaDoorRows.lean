/-
  NARROWER THAN 'FOR EVERY INPUT', by the rows' own cells (each row's printed sentence says how): IntervalMatchesReference: laid · IntervalPoints: laid · IntervalCanonical: laid · IntervalAlgebra: laid · IntervalMeasure: laid · IntervalPieces: laid · IntervalGaps: laid.
  DERIVED. THE GIVEN ROWS OF THIS SEAT. 7 by the template 'for every input the law returns true; each argument reads behind the call as it read before'; 0 by the template 'total and deterministic' (their statements: YtcbopckgnbameaaDoorTotals.lean).
  GIVEN WITH THE SEED: the statements are not yours to turn. If you find one false, say at which input.
  Laid BY PROGRAM, IN A SANDBOX (cutbox-rows.mjs): the forced cells as the released guide's own fill.sh prints them over the translation 89a38a8fd57bd564… (all of the seat's roots in one cut). By AI agents, Wed Nov 11 2026. No macro, syntax, notation, axiom, sorry.
-/
import Derived.Test.YtcbopckgnbameaaDoorChecked
import GoSem.Claim
import GoSem.ClaimJoined
import GoSem.ClaimMapViews
import Derived.JoinedTies
import Derived.KernelRfl
namespace Go.Proofs.YtcbopckgnbameaaDoor
/- THE CELL 'sum', in the pinned program and in every row, IS THE sha256 OF THE DUMP (.gsa) THAT YtcbopckgnbameaaDoorProg.lean LOADS. Nothing in Lean hashes anything: it is a label: what it is worth is what the hold of that sum in a sandbox is worth. -/
noncomputable def Tryd.pinned : Pinned := { name := "ytcbopckgnbameaadoor", sum := "89a38a8fd57bd5649f32aab11d23942951940233fb6bc5a12dfdfd2b678f6a5b", checked := Tryd.checked }
namespace Rows
def none {H : Type} : Left H := { results := [], args := [] }

/- WHAT THE LISTED PACKAGE-LEVEL VARIABLES READ AS WHEN THE CALL BEGINS. Each datum BY PROGRAM (the guide's laid-datum.mjs) off the statement by which the dump's own 'gosem.cut.vars' lays the variable. In a bare row this is a premise. The card (YtcbopckgnbameaaDoorCards.lean) ties it to the program's text. -/
def laid_math_bits_deBruijn64tab {H : Type} : DataW H := .agg [.lit (.int .u8 0), .lit (.int .u8 1), .lit (.int .u8 56), .lit (.int .u8 2), .lit (.int .u8 57), .lit (.int .u8 49), .lit (.int .u8 28), .lit (.int .u8 3), .lit (.int .u8 61), .lit (.int .u8 58), .lit (.int .u8 42), .lit (.int .u8 50), .lit (.int .u8 38), .lit (.int .u8 29), .lit (.int .u8 17), .lit (.int .u8 4), .lit (.int .u8 62), .lit (.int .u8 47), .lit (.int .u8 59), .lit (.int .u8 36), .lit (.int .u8 45), .lit (.int .u8 43), .lit (.int .u8 51), .lit (.int .u8 22), .lit (.int .u8 53), .lit (.int .u8 39), .lit (.int .u8 33), .lit (.int .u8 30), .lit (.int .u8 24), .lit (.int .u8 18), .lit (.int .u8 12), .lit (.int .u8 5), .lit (.int .u8 63), .lit (.int .u8 55), .lit (.int .u8 48), .lit (.int .u8 27), .lit (.int .u8 60), .lit (.int .u8 41), .lit (.int .u8 37), .lit (.int .u8 16), .lit (.int .u8 46), .lit (.int .u8 35), .lit (.int .u8 44), .lit (.int .u8 21), .lit (.int .u8 52), .lit (.int .u8 32), .lit (.int .u8 23), .lit (.int .u8 11), .lit (.int .u8 54), .lit (.int .u8 26), .lit (.int .u8 40), .lit (.int .u8 15), .lit (.int .u8 34), .lit (.int .u8 20), .lit (.int .u8 31), .lit (.int .u8 10), .lit (.int .u8 25), .lit (.int .u8 14), .lit (.int .u8 19), .lit (.int .u8 9), .lit (.int .u8 13), .lit (.int .u8 8), .lit (.int .u8 7), .lit (.int .u8 6)]

/-- 'porismlaw01.IntervalMatchesReference': WHATEVER THE INPUT: true; the input reads as it did. -/
def intervalMatchesReferenceSpec : ChangeSpec := { name := "intervalMatchesReference", fn := fun _ => fun
  | [d1, d2, d3] => { results := [.lit (.bool true)], args := [d1, d2, d3] }
  | _ => none }
def intervalMatchesReferenceRow : OpenClaim := { program := "ytcbopckgnbameaadoor", sum := "89a38a8fd57bd5649f32aab11d23942951940233fb6bc5a12dfdfd2b678f6a5b", func := "porism/porismlaw01.IntervalMatchesReference", spec := "intervalMatchesReference", unfollowed := true, recurses := true, named := ["math/bits.deBruijn64tab"], apart := false, laid := [("math/bits.deBruijn64tab", laid_math_bits_deBruijn64tab)] }
def IntervalMatchesReferenceSaid : Prop := intervalMatchesReferenceRow.holds Tryd.pinned (OpenSpec.ofChange intervalMatchesReferenceSpec)

/-- ITS FALSE NEIGHBOUR: 'it returns false'. Refute it at one input. -/
def intervalMatchesReferenceWrong : ChangeSpec := { name := "intervalMatchesReference", fn := fun _ => fun
  | [d1, d2, d3] => { results := [.lit (.bool false)], args := [d1, d2, d3] }
  | _ => none }
def IntervalMatchesReferenceWrongFalsely : Prop := intervalMatchesReferenceRow.holds Tryd.pinned (OpenSpec.ofChange intervalMatchesReferenceWrong)

/-- 'porismlaw01.IntervalPoints': WHATEVER THE INPUT: true; the input reads as it did. -/
def intervalPointsSpec : ChangeSpec := { name := "intervalPoints", fn := fun _ => fun
  | [d1, d2] => { results := [.lit (.bool true)], args := [d1, d2] }
  | _ => none }
def intervalPointsRow : OpenClaim := { program := "ytcbopckgnbameaadoor", sum := "89a38a8fd57bd5649f32aab11d23942951940233fb6bc5a12dfdfd2b678f6a5b", func := "porism/porismlaw01.IntervalPoints", spec := "intervalPoints", unfollowed := true, recurses := true, named := ["math/bits.deBruijn64tab"], apart := false, laid := [("math/bits.deBruijn64tab", laid_math_bits_deBruijn64tab)] }
def IntervalPointsSaid : Prop := intervalPointsRow.holds Tryd.pinned (OpenSpec.ofChange intervalPointsSpec)

/-- ITS FALSE NEIGHBOUR: 'it returns false'. Refute it at one input. -/
def intervalPointsWrong : ChangeSpec := { name := "intervalPoints", fn := fun _ => fun
  | [d1, d2] => { results := [.lit (.bool false)], args := [d1, d2] }
  | _ => none }
def IntervalPointsWrongFalsely : Prop := intervalPointsRow.holds Tryd.pinned (OpenSpec.ofChange intervalPointsWrong)

/-- 'porismlaw01.IntervalCanonical': WHATEVER THE INPUT: true; the input reads as it did. -/
def intervalCanonicalSpec : ChangeSpec := { name := "intervalCanonical", fn := fun _ => fun
  | [d1, d2] => { results := [.lit (.bool true)], args := [d1, d2] }
  | _ => none }
def intervalCanonicalRow : OpenClaim := { program := "ytcbopckgnbameaadoor", sum := "89a38a8fd57bd5649f32aab11d23942951940233fb6bc5a12dfdfd2b678f6a5b", func := "porism/porismlaw01.IntervalCanonical", spec := "intervalCanonical", unfollowed := true, recurses := true, named := ["math/bits.deBruijn64tab"], apart := false, laid := [("math/bits.deBruijn64tab", laid_math_bits_deBruijn64tab)] }
def IntervalCanonicalSaid : Prop := intervalCanonicalRow.holds Tryd.pinned (OpenSpec.ofChange intervalCanonicalSpec)

/-- ITS FALSE NEIGHBOUR: 'it returns false'. Refute it at one input. -/
def intervalCanonicalWrong : ChangeSpec := { name := "intervalCanonical", fn := fun _ => fun
  | [d1, d2] => { results := [.lit (.bool false)], args := [d1, d2] }
  | _ => none }
def IntervalCanonicalWrongFalsely : Prop := intervalCanonicalRow.holds Tryd.pinned (OpenSpec.ofChange intervalCanonicalWrong)

/-- 'porismlaw01.IntervalAlgebra': WHATEVER THE INPUT: true; the input reads as it did. -/
def intervalAlgebraSpec : ChangeSpec := { name := "intervalAlgebra", fn := fun _ => fun
  | [d1, d2, d3] => { results := [.lit (.bool true)], args := [d1, d2, d3] }
  | _ => none }
def intervalAlgebraRow : OpenClaim := { program := "ytcbopckgnbameaadoor", sum := "89a38a8fd57bd5649f32aab11d23942951940233fb6bc5a12dfdfd2b678f6a5b", func := "porism/porismlaw01.IntervalAlgebra", spec := "intervalAlgebra", unfollowed := true, recurses := true, named := ["math/bits.deBruijn64tab"], apart := false, laid := [("math/bits.deBruijn64tab", laid_math_bits_deBruijn64tab)] }
def IntervalAlgebraSaid : Prop := intervalAlgebraRow.holds Tryd.pinned (OpenSpec.ofChange intervalAlgebraSpec)

/-- ITS FALSE NEIGHBOUR: 'it returns false'. Refute it at one input. -/
def intervalAlgebraWrong : ChangeSpec := { name := "intervalAlgebra", fn := fun _ => fun
  | [d1, d2, d3] => { results := [.lit (.bool false)], args := [d1, d2, d3] }
  | _ => none }
def IntervalAlgebraWrongFalsely : Prop := intervalAlgebraRow.holds Tryd.pinned (OpenSpec.ofChange intervalAlgebraWrong)

/-- 'porismlaw01.IntervalMeasure': WHATEVER THE INPUT: true; the input reads as it did. -/
def intervalMeasureSpec : ChangeSpec := { name := "intervalMeasure", fn := fun _ => fun
  | [d1, d2] => { results := [.lit (.bool true)], args := [d1, d2] }
  | _ => none }
def intervalMeasureRow : OpenClaim := { program := "ytcbopckgnbameaadoor", sum := "89a38a8fd57bd5649f32aab11d23942951940233fb6bc5a12dfdfd2b678f6a5b", func := "porism/porismlaw01.IntervalMeasure", spec := "intervalMeasure", unfollowed := true, recurses := true, named := ["math/bits.deBruijn64tab"], apart := false, laid := [("math/bits.deBruijn64tab", laid_math_bits_deBruijn64tab)] }
def IntervalMeasureSaid : Prop := intervalMeasureRow.holds Tryd.pinned (OpenSpec.ofChange intervalMeasureSpec)

/-- ITS FALSE NEIGHBOUR: 'it returns false'. Refute it at one input. -/
def intervalMeasureWrong : ChangeSpec := { name := "intervalMeasure", fn := fun _ => fun
  | [d1, d2] => { results := [.lit (.bool false)], args := [d1, d2] }
  | _ => none }
def IntervalMeasureWrongFalsely : Prop := intervalMeasureRow.holds Tryd.pinned (OpenSpec.ofChange intervalMeasureWrong)

/-- 'porismlaw01.IntervalPieces': WHATEVER THE INPUT: true; the input reads as it did. -/
def intervalPiecesSpec : ChangeSpec := { name := "intervalPieces", fn := fun _ => fun
  | [d1, d2, d3] => { results := [.lit (.bool true)], args := [d1, d2, d3] }
  | _ => none }
def intervalPiecesRow : OpenClaim := { program := "ytcbopckgnbameaadoor", sum := "89a38a8fd57bd5649f32aab11d23942951940233fb6bc5a12dfdfd2b678f6a5b", func := "porism/porismlaw01.IntervalPieces", spec := "intervalPieces", unfollowed := true, recurses := true, named := ["math/bits.deBruijn64tab"], apart := false, laid := [("math/bits.deBruijn64tab", laid_math_bits_deBruijn64tab)] }
def IntervalPiecesSaid : Prop := intervalPiecesRow.holds Tryd.pinned (OpenSpec.ofChange intervalPiecesSpec)

/-- ITS FALSE NEIGHBOUR: 'it returns false'. Refute it at one input. -/
def intervalPiecesWrong : ChangeSpec := { name := "intervalPieces", fn := fun _ => fun
  | [d1, d2, d3] => { results := [.lit (.bool false)], args := [d1, d2, d3] }
  | _ => none }
def IntervalPiecesWrongFalsely : Prop := intervalPiecesRow.holds Tryd.pinned (OpenSpec.ofChange intervalPiecesWrong)

/-- 'porismlaw01.IntervalGaps': WHATEVER THE INPUT: true; the input reads as it did. -/
def intervalGapsSpec : ChangeSpec := { name := "intervalGaps", fn := fun _ => fun
  | [d] => { results := [.lit (.bool true)], args := [d] }
  | _ => none }
def intervalGapsRow : OpenClaim := { program := "ytcbopckgnbameaadoor", sum := "89a38a8fd57bd5649f32aab11d23942951940233fb6bc5a12dfdfd2b678f6a5b", func := "porism/porismlaw01.IntervalGaps", spec := "intervalGaps", unfollowed := true, recurses := true, named := ["math/bits.deBruijn64tab"], apart := false, laid := [("math/bits.deBruijn64tab", laid_math_bits_deBruijn64tab)] }
def IntervalGapsSaid : Prop := intervalGapsRow.holds Tryd.pinned (OpenSpec.ofChange intervalGapsSpec)

/-- ITS FALSE NEIGHBOUR: 'it returns false'. Refute it at one input. -/
def intervalGapsWrong : ChangeSpec := { name := "intervalGaps", fn := fun _ => fun
  | [d] => { results := [.lit (.bool false)], args := [d] }
  | _ => none }
def IntervalGapsWrongFalsely : Prop := intervalGapsRow.holds Tryd.pinned (OpenSpec.ofChange intervalGapsWrong)

/- THE SECOND FORM. 'bulk': how many values and letters a reading holds, each counted each time it is reached (what is shared counts as often as it is met; a slice's spare places count too). A statement '..UptoSaid' is the law's where the arguments, and the package variables that the reading takes, are together of bulk at most 1048576: NARROWER than '..Said'. Prove '..Said' where nothing that the law and all that it calls make is longer than what came in: it says more and counts as full. Else prove '..UptoSaid'. A law counts once. -/
mutual
def uptoBulk {H : Type} : DataW H → Nat
  | .lit (.string bytes) => bytes.length + 1
  | .lit _ => 1
  | .nil => 1
  | .ptr d => uptoBulk d + 1
  | .slice elems spare => uptoBulkAll elems + uptoBulkAll spare + 1
  | .agg parts => uptoBulkAll parts + 1
  | .iface _ d => uptoBulk d + 1
  | .map entries => uptoBulkEntries entries + 1
  | .held _ => 1
def uptoBulkAll {H : Type} : List (DataW H) → Nat
  | [] => 0
  | d :: r => uptoBulk d + uptoBulkAll r
def uptoBulkEntries {H : Type} : List (Lit × DataW H) → Nat
  | [] => 0
  | x :: r => uptoBulkEntry x + uptoBulkEntries r
def uptoBulkEntry {H : Type} : Lit × DataW H → Nat
  | (.string bytes, d) => bytes.length + uptoBulk d + 1
  | (_, d) => uptoBulk d + 1
 end
def uptoSmall : (H : Type) → List (DataW H) → Bool := fun _ ds => decide (uptoBulkAll ds ≤ 1048576)
def OpenSpec.upto (s : _root_.Go.ChangeSpec) : _root_.Go.OpenSpec := { _root_.Go.OpenSpec.ofChange s with cond := some uptoSmall }

/-- 'porismlaw01.IntervalMatchesReference', WHERE WHAT IT READS IS OF BULK AT MOST 1048576: true; the input reads as it did. -/
def intervalMatchesReferenceUptoRow : OpenClaim := { program := "ytcbopckgnbameaadoor", sum := "89a38a8fd57bd5649f32aab11d23942951940233fb6bc5a12dfdfd2b678f6a5b", func := "porism/porismlaw01.IntervalMatchesReference", spec := "intervalMatchesReference", unfollowed := true, recurses := true, named := ["math/bits.deBruijn64tab"], apart := false, laid := [("math/bits.deBruijn64tab", laid_math_bits_deBruijn64tab)], narrowed := true }
def IntervalMatchesReferenceUptoSaid : Prop := intervalMatchesReferenceUptoRow.holds Tryd.pinned (OpenSpec.upto intervalMatchesReferenceSpec)

/-- 'porismlaw01.IntervalPoints', WHERE WHAT IT READS IS OF BULK AT MOST 1048576: true; the input reads as it did. -/
def intervalPointsUptoRow : OpenClaim := { program := "ytcbopckgnbameaadoor", sum := "89a38a8fd57bd5649f32aab11d23942951940233fb6bc5a12dfdfd2b678f6a5b", func := "porism/porismlaw01.IntervalPoints", spec := "intervalPoints", unfollowed := true, recurses := true, named := ["math/bits.deBruijn64tab"], apart := false, laid := [("math/bits.deBruijn64tab", laid_math_bits_deBruijn64tab)], narrowed := true }
def IntervalPointsUptoSaid : Prop := intervalPointsUptoRow.holds Tryd.pinned (OpenSpec.upto intervalPointsSpec)

/-- 'porismlaw01.IntervalCanonical', WHERE WHAT IT READS IS OF BULK AT MOST 1048576: true; the input reads as it did. -/
def intervalCanonicalUptoRow : OpenClaim := { program := "ytcbopckgnbameaadoor", sum := "89a38a8fd57bd5649f32aab11d23942951940233fb6bc5a12dfdfd2b678f6a5b", func := "porism/porismlaw01.IntervalCanonical", spec := "intervalCanonical", unfollowed := true, recurses := true, named := ["math/bits.deBruijn64tab"], apart := false, laid := [("math/bits.deBruijn64tab", laid_math_bits_deBruijn64tab)], narrowed := true }
def IntervalCanonicalUptoSaid : Prop := intervalCanonicalUptoRow.holds Tryd.pinned (OpenSpec.upto intervalCanonicalSpec)

/-- 'porismlaw01.IntervalAlgebra', WHERE WHAT IT READS IS OF BULK AT MOST 1048576: true; the input reads as it did. -/
def intervalAlgebraUptoRow : OpenClaim := { program := "ytcbopckgnbameaadoor", sum := "89a38a8fd57bd5649f32aab11d23942951940233fb6bc5a12dfdfd2b678f6a5b", func := "porism/porismlaw01.IntervalAlgebra", spec := "intervalAlgebra", unfollowed := true, recurses := true, named := ["math/bits.deBruijn64tab"], apart := false, laid := [("math/bits.deBruijn64tab", laid_math_bits_deBruijn64tab)], narrowed := true }
def IntervalAlgebraUptoSaid : Prop := intervalAlgebraUptoRow.holds Tryd.pinned (OpenSpec.upto intervalAlgebraSpec)

/-- 'porismlaw01.IntervalMeasure', WHERE WHAT IT READS IS OF BULK AT MOST 1048576: true; the input reads as it did. -/
def intervalMeasureUptoRow : OpenClaim := { program := "ytcbopckgnbameaadoor", sum := "89a38a8fd57bd5649f32aab11d23942951940233fb6bc5a12dfdfd2b678f6a5b", func := "porism/porismlaw01.IntervalMeasure", spec := "intervalMeasure", unfollowed := true, recurses := true, named := ["math/bits.deBruijn64tab"], apart := false, laid := [("math/bits.deBruijn64tab", laid_math_bits_deBruijn64tab)], narrowed := true }
def IntervalMeasureUptoSaid : Prop := intervalMeasureUptoRow.holds Tryd.pinned (OpenSpec.upto intervalMeasureSpec)

/-- 'porismlaw01.IntervalPieces', WHERE WHAT IT READS IS OF BULK AT MOST 1048576: true; the input reads as it did. -/
def intervalPiecesUptoRow : OpenClaim := { program := "ytcbopckgnbameaadoor", sum := "89a38a8fd57bd5649f32aab11d23942951940233fb6bc5a12dfdfd2b678f6a5b", func := "porism/porismlaw01.IntervalPieces", spec := "intervalPieces", unfollowed := true, recurses := true, named := ["math/bits.deBruijn64tab"], apart := false, laid := [("math/bits.deBruijn64tab", laid_math_bits_deBruijn64tab)], narrowed := true }
def IntervalPiecesUptoSaid : Prop := intervalPiecesUptoRow.holds Tryd.pinned (OpenSpec.upto intervalPiecesSpec)

/-- 'porismlaw01.IntervalGaps', WHERE WHAT IT READS IS OF BULK AT MOST 1048576: true; the input reads as it did. -/
def intervalGapsUptoRow : OpenClaim := { program := "ytcbopckgnbameaadoor", sum := "89a38a8fd57bd5649f32aab11d23942951940233fb6bc5a12dfdfd2b678f6a5b", func := "porism/porismlaw01.IntervalGaps", spec := "intervalGaps", unfollowed := true, recurses := true, named := ["math/bits.deBruijn64tab"], apart := false, laid := [("math/bits.deBruijn64tab", laid_math_bits_deBruijn64tab)], narrowed := true }
def IntervalGapsUptoSaid : Prop := intervalGapsUptoRow.holds Tryd.pinned (OpenSpec.upto intervalGapsSpec)

end Rows
end Go.Proofs.YtcbopckgnbameaaDoor
