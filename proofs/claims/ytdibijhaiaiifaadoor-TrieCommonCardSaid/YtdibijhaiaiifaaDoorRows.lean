/-
  NARROWER THAN 'FOR EVERY INPUT', by the rows' own cells (each row's printed sentence says how): RelationMatchesReference: laid · RelationSelectMatchesReference: laid · RelationPoints: laid · RelationCanonical: laid · RelationMoments: laid · RelationParts: laid · RelationOne: laid · RelationSelection: laid · TrieMatchesReference: loops, laid · TrieInverse: loops, laid · TrieSeeks: laid · TrieCommon: laid · TrieCanonical: laid · TriePrefixes: laid.
  DERIVED. THE GIVEN ROWS OF THIS SEAT. 14 by the template 'for every input the law returns true; each argument reads behind the call as it read before'; 0 by the template 'total and deterministic' (their statements: YtdibijhaiaiifaaDoorTotals.lean).
  GIVEN WITH THE SEED: the statements are not yours to turn. If you find one false, say at which input.
  Laid BY PROGRAM, IN A SANDBOX (cutbox-rows.mjs): the forced cells as the released guide's own fill.sh prints them over the translation d74caf0788f61e6a… (all of the seat's roots in one cut). By AI agents, Wed Nov 11 2026. No macro, syntax, notation, axiom, sorry.
-/
import Derived.Test.YtdibijhaiaiifaaDoorChecked
import GoSem.Claim
import GoSem.ClaimJoined
import GoSem.ClaimMapViews
import Derived.JoinedTies
import Derived.KernelRfl
namespace Go.Proofs.YtdibijhaiaiifaaDoor
/- THE CELL 'sum', in the pinned program and in every row, IS THE sha256 OF THE DUMP (.gsa) THAT YtdibijhaiaiifaaDoorProg.lean LOADS. Nothing in Lean hashes anything: it is a label: what it is worth is what the hold of that sum in a sandbox is worth. -/
noncomputable def Tryd.pinned : Pinned := { name := "ytdibijhaiaiifaadoor", sum := "d74caf0788f61e6a03c25386ab4427222a502402818e7f93cd8fe64a0a16ad43", checked := Tryd.checked }
namespace Rows
def none {H : Type} : Left H := { results := [], args := [] }

/- WHAT THE LISTED PACKAGE-LEVEL VARIABLES READ AS WHEN THE CALL BEGINS. Each datum BY PROGRAM (the guide's laid-datum.mjs) off the statement by which the dump's own 'gosem.cut.vars' lays the variable. In a bare row this is a premise. The card (YtdibijhaiaiifaaDoorCards.lean) ties it to the program's text. -/
def laid_math_bits_deBruijn64tab {H : Type} : DataW H := .agg [.lit (.int .u8 0), .lit (.int .u8 1), .lit (.int .u8 56), .lit (.int .u8 2), .lit (.int .u8 57), .lit (.int .u8 49), .lit (.int .u8 28), .lit (.int .u8 3), .lit (.int .u8 61), .lit (.int .u8 58), .lit (.int .u8 42), .lit (.int .u8 50), .lit (.int .u8 38), .lit (.int .u8 29), .lit (.int .u8 17), .lit (.int .u8 4), .lit (.int .u8 62), .lit (.int .u8 47), .lit (.int .u8 59), .lit (.int .u8 36), .lit (.int .u8 45), .lit (.int .u8 43), .lit (.int .u8 51), .lit (.int .u8 22), .lit (.int .u8 53), .lit (.int .u8 39), .lit (.int .u8 33), .lit (.int .u8 30), .lit (.int .u8 24), .lit (.int .u8 18), .lit (.int .u8 12), .lit (.int .u8 5), .lit (.int .u8 63), .lit (.int .u8 55), .lit (.int .u8 48), .lit (.int .u8 27), .lit (.int .u8 60), .lit (.int .u8 41), .lit (.int .u8 37), .lit (.int .u8 16), .lit (.int .u8 46), .lit (.int .u8 35), .lit (.int .u8 44), .lit (.int .u8 21), .lit (.int .u8 52), .lit (.int .u8 32), .lit (.int .u8 23), .lit (.int .u8 11), .lit (.int .u8 54), .lit (.int .u8 26), .lit (.int .u8 40), .lit (.int .u8 15), .lit (.int .u8 34), .lit (.int .u8 20), .lit (.int .u8 31), .lit (.int .u8 10), .lit (.int .u8 25), .lit (.int .u8 14), .lit (.int .u8 19), .lit (.int .u8 9), .lit (.int .u8 13), .lit (.int .u8 8), .lit (.int .u8 7), .lit (.int .u8 6)]
def laid_porism_value_words {H : Type} : DataW H := .agg [.lit (.string [108, 97, 116, 116, 105, 99, 101]), .lit (.string [102, 117, 110, 99, 116, 105, 111, 110]), .lit (.string [111, 110]), .lit (.string [98, 97, 115, 101]), .lit (.string [118, 105, 101, 119]), .lit (.string [107, 101, 121]), .lit (.string [100, 101, 110, 121]), .lit (.string [110, 111, 116]), .lit (.string [105, 110, 116]), .lit (.string [115, 121, 109])]

/-- 'porismlaw10.RelationMatchesReference': WHATEVER THE INPUT: true; the input reads as it did. -/
def relationMatchesReferenceSpec : ChangeSpec := { name := "relationMatchesReference", fn := fun _ => fun
  | [d1, d2, d3, d4, d5, d6] => { results := [.lit (.bool true)], args := [d1, d2, d3, d4, d5, d6] }
  | _ => none }
def relationMatchesReferenceRow : OpenClaim := { program := "ytdibijhaiaiifaadoor", sum := "d74caf0788f61e6a03c25386ab4427222a502402818e7f93cd8fe64a0a16ad43", func := "porism/porismlaw10.RelationMatchesReference", spec := "relationMatchesReference", unfollowed := true, recurses := true, named := ["math/bits.deBruijn64tab", "porism/value.words"], apart := false, laid := [("math/bits.deBruijn64tab", laid_math_bits_deBruijn64tab), ("porism/value.words", laid_porism_value_words)] }
def RelationMatchesReferenceSaid : Prop := relationMatchesReferenceRow.holds Tryd.pinned (OpenSpec.ofChange relationMatchesReferenceSpec)

/-- ITS FALSE NEIGHBOUR: 'it returns false'. Refute it at one input. -/
def relationMatchesReferenceWrong : ChangeSpec := { name := "relationMatchesReference", fn := fun _ => fun
  | [d1, d2, d3, d4, d5, d6] => { results := [.lit (.bool false)], args := [d1, d2, d3, d4, d5, d6] }
  | _ => none }
def RelationMatchesReferenceWrongFalsely : Prop := relationMatchesReferenceRow.holds Tryd.pinned (OpenSpec.ofChange relationMatchesReferenceWrong)

/-- 'porismlaw10.RelationSelectMatchesReference': WHATEVER THE INPUT: true; the input reads as it did. -/
def relationSelectMatchesReferenceSpec : ChangeSpec := { name := "relationSelectMatchesReference", fn := fun _ => fun
  | [d1, d2] => { results := [.lit (.bool true)], args := [d1, d2] }
  | _ => none }
def relationSelectMatchesReferenceRow : OpenClaim := { program := "ytdibijhaiaiifaadoor", sum := "d74caf0788f61e6a03c25386ab4427222a502402818e7f93cd8fe64a0a16ad43", func := "porism/porismlaw10.RelationSelectMatchesReference", spec := "relationSelectMatchesReference", unfollowed := true, recurses := true, named := ["math/bits.deBruijn64tab", "porism/value.words"], apart := false, laid := [("math/bits.deBruijn64tab", laid_math_bits_deBruijn64tab), ("porism/value.words", laid_porism_value_words)] }
def RelationSelectMatchesReferenceSaid : Prop := relationSelectMatchesReferenceRow.holds Tryd.pinned (OpenSpec.ofChange relationSelectMatchesReferenceSpec)

/-- ITS FALSE NEIGHBOUR: 'it returns false'. Refute it at one input. -/
def relationSelectMatchesReferenceWrong : ChangeSpec := { name := "relationSelectMatchesReference", fn := fun _ => fun
  | [d1, d2] => { results := [.lit (.bool false)], args := [d1, d2] }
  | _ => none }
def RelationSelectMatchesReferenceWrongFalsely : Prop := relationSelectMatchesReferenceRow.holds Tryd.pinned (OpenSpec.ofChange relationSelectMatchesReferenceWrong)

/-- 'porismlaw10.RelationPoints': WHATEVER THE INPUT: true; the input reads as it did. -/
def relationPointsSpec : ChangeSpec := { name := "relationPoints", fn := fun _ => fun
  | [d1, d2, d3, d4, d5] => { results := [.lit (.bool true)], args := [d1, d2, d3, d4, d5] }
  | _ => none }
def relationPointsRow : OpenClaim := { program := "ytdibijhaiaiifaadoor", sum := "d74caf0788f61e6a03c25386ab4427222a502402818e7f93cd8fe64a0a16ad43", func := "porism/porismlaw10.RelationPoints", spec := "relationPoints", unfollowed := true, recurses := true, named := ["math/bits.deBruijn64tab", "porism/value.words"], apart := false, laid := [("math/bits.deBruijn64tab", laid_math_bits_deBruijn64tab), ("porism/value.words", laid_porism_value_words)] }
def RelationPointsSaid : Prop := relationPointsRow.holds Tryd.pinned (OpenSpec.ofChange relationPointsSpec)

/-- ITS FALSE NEIGHBOUR: 'it returns false'. Refute it at one input. -/
def relationPointsWrong : ChangeSpec := { name := "relationPoints", fn := fun _ => fun
  | [d1, d2, d3, d4, d5] => { results := [.lit (.bool false)], args := [d1, d2, d3, d4, d5] }
  | _ => none }
def RelationPointsWrongFalsely : Prop := relationPointsRow.holds Tryd.pinned (OpenSpec.ofChange relationPointsWrong)

/-- 'porismlaw10.RelationCanonical': WHATEVER THE INPUT: true; the input reads as it did. -/
def relationCanonicalSpec : ChangeSpec := { name := "relationCanonical", fn := fun _ => fun
  | [d1, d2, d3, d4, d5] => { results := [.lit (.bool true)], args := [d1, d2, d3, d4, d5] }
  | _ => none }
def relationCanonicalRow : OpenClaim := { program := "ytdibijhaiaiifaadoor", sum := "d74caf0788f61e6a03c25386ab4427222a502402818e7f93cd8fe64a0a16ad43", func := "porism/porismlaw10.RelationCanonical", spec := "relationCanonical", unfollowed := true, recurses := true, named := ["math/bits.deBruijn64tab", "porism/value.words"], apart := false, laid := [("math/bits.deBruijn64tab", laid_math_bits_deBruijn64tab), ("porism/value.words", laid_porism_value_words)] }
def RelationCanonicalSaid : Prop := relationCanonicalRow.holds Tryd.pinned (OpenSpec.ofChange relationCanonicalSpec)

/-- ITS FALSE NEIGHBOUR: 'it returns false'. Refute it at one input. -/
def relationCanonicalWrong : ChangeSpec := { name := "relationCanonical", fn := fun _ => fun
  | [d1, d2, d3, d4, d5] => { results := [.lit (.bool false)], args := [d1, d2, d3, d4, d5] }
  | _ => none }
def RelationCanonicalWrongFalsely : Prop := relationCanonicalRow.holds Tryd.pinned (OpenSpec.ofChange relationCanonicalWrong)

/-- 'porismlaw10.RelationMoments': WHATEVER THE INPUT: true; the input reads as it did. -/
def relationMomentsSpec : ChangeSpec := { name := "relationMoments", fn := fun _ => fun
  | [d1, d2, d3] => { results := [.lit (.bool true)], args := [d1, d2, d3] }
  | _ => none }
def relationMomentsRow : OpenClaim := { program := "ytdibijhaiaiifaadoor", sum := "d74caf0788f61e6a03c25386ab4427222a502402818e7f93cd8fe64a0a16ad43", func := "porism/porismlaw10.RelationMoments", spec := "relationMoments", unfollowed := true, recurses := true, named := ["math/bits.deBruijn64tab", "porism/value.words"], apart := false, laid := [("math/bits.deBruijn64tab", laid_math_bits_deBruijn64tab), ("porism/value.words", laid_porism_value_words)] }
def RelationMomentsSaid : Prop := relationMomentsRow.holds Tryd.pinned (OpenSpec.ofChange relationMomentsSpec)

/-- ITS FALSE NEIGHBOUR: 'it returns false'. Refute it at one input. -/
def relationMomentsWrong : ChangeSpec := { name := "relationMoments", fn := fun _ => fun
  | [d1, d2, d3] => { results := [.lit (.bool false)], args := [d1, d2, d3] }
  | _ => none }
def RelationMomentsWrongFalsely : Prop := relationMomentsRow.holds Tryd.pinned (OpenSpec.ofChange relationMomentsWrong)

/-- 'porismlaw10.RelationParts': WHATEVER THE INPUT: true; the input reads as it did. -/
def relationPartsSpec : ChangeSpec := { name := "relationParts", fn := fun _ => fun
  | [d1, d2] => { results := [.lit (.bool true)], args := [d1, d2] }
  | _ => none }
def relationPartsRow : OpenClaim := { program := "ytdibijhaiaiifaadoor", sum := "d74caf0788f61e6a03c25386ab4427222a502402818e7f93cd8fe64a0a16ad43", func := "porism/porismlaw10.RelationParts", spec := "relationParts", unfollowed := true, recurses := true, named := ["math/bits.deBruijn64tab", "porism/value.words"], apart := false, laid := [("math/bits.deBruijn64tab", laid_math_bits_deBruijn64tab), ("porism/value.words", laid_porism_value_words)] }
def RelationPartsSaid : Prop := relationPartsRow.holds Tryd.pinned (OpenSpec.ofChange relationPartsSpec)

/-- ITS FALSE NEIGHBOUR: 'it returns false'. Refute it at one input. -/
def relationPartsWrong : ChangeSpec := { name := "relationParts", fn := fun _ => fun
  | [d1, d2] => { results := [.lit (.bool false)], args := [d1, d2] }
  | _ => none }
def RelationPartsWrongFalsely : Prop := relationPartsRow.holds Tryd.pinned (OpenSpec.ofChange relationPartsWrong)

/-- 'porismlaw10.RelationOne': WHATEVER THE INPUT: true; the input reads as it did. -/
def relationOneSpec : ChangeSpec := { name := "relationOne", fn := fun _ => fun
  | [d1, d2, d3] => { results := [.lit (.bool true)], args := [d1, d2, d3] }
  | _ => none }
def relationOneRow : OpenClaim := { program := "ytdibijhaiaiifaadoor", sum := "d74caf0788f61e6a03c25386ab4427222a502402818e7f93cd8fe64a0a16ad43", func := "porism/porismlaw10.RelationOne", spec := "relationOne", unfollowed := true, recurses := true, named := ["math/bits.deBruijn64tab", "porism/value.words"], apart := false, laid := [("math/bits.deBruijn64tab", laid_math_bits_deBruijn64tab), ("porism/value.words", laid_porism_value_words)] }
def RelationOneSaid : Prop := relationOneRow.holds Tryd.pinned (OpenSpec.ofChange relationOneSpec)

/-- ITS FALSE NEIGHBOUR: 'it returns false'. Refute it at one input. -/
def relationOneWrong : ChangeSpec := { name := "relationOne", fn := fun _ => fun
  | [d1, d2, d3] => { results := [.lit (.bool false)], args := [d1, d2, d3] }
  | _ => none }
def RelationOneWrongFalsely : Prop := relationOneRow.holds Tryd.pinned (OpenSpec.ofChange relationOneWrong)

/-- 'porismlaw10.RelationSelection': WHATEVER THE INPUT: true; the input reads as it did. -/
def relationSelectionSpec : ChangeSpec := { name := "relationSelection", fn := fun _ => fun
  | [d1, d2, d3] => { results := [.lit (.bool true)], args := [d1, d2, d3] }
  | _ => none }
def relationSelectionRow : OpenClaim := { program := "ytdibijhaiaiifaadoor", sum := "d74caf0788f61e6a03c25386ab4427222a502402818e7f93cd8fe64a0a16ad43", func := "porism/porismlaw10.RelationSelection", spec := "relationSelection", unfollowed := true, recurses := true, named := ["math/bits.deBruijn64tab", "porism/value.words"], apart := false, laid := [("math/bits.deBruijn64tab", laid_math_bits_deBruijn64tab), ("porism/value.words", laid_porism_value_words)] }
def RelationSelectionSaid : Prop := relationSelectionRow.holds Tryd.pinned (OpenSpec.ofChange relationSelectionSpec)

/-- ITS FALSE NEIGHBOUR: 'it returns false'. Refute it at one input. -/
def relationSelectionWrong : ChangeSpec := { name := "relationSelection", fn := fun _ => fun
  | [d1, d2, d3] => { results := [.lit (.bool false)], args := [d1, d2, d3] }
  | _ => none }
def RelationSelectionWrongFalsely : Prop := relationSelectionRow.holds Tryd.pinned (OpenSpec.ofChange relationSelectionWrong)

/-- 'porismlaw12.TrieMatchesReference': WHATEVER THE INPUT: true; the input reads as it did. -/
def trieMatchesReferenceSpec : ChangeSpec := { name := "trieMatchesReference", fn := fun _ => fun
  | [d1, d2, d3, d4, d5, d6] => { results := [.lit (.bool true)], args := [d1, d2, d3, d4, d5, d6] }
  | _ => none }
def trieMatchesReferenceRow : OpenClaim := { program := "ytdibijhaiaiifaadoor", sum := "d74caf0788f61e6a03c25386ab4427222a502402818e7f93cd8fe64a0a16ad43", func := "porism/porismlaw12.TrieMatchesReference", spec := "trieMatchesReference", unfollowed := true, recurses := true, named := ["math/bits.deBruijn64tab"], loops := true, apart := false, laid := [("math/bits.deBruijn64tab", laid_math_bits_deBruijn64tab)] }
def TrieMatchesReferenceSaid : Prop := trieMatchesReferenceRow.holds Tryd.pinned (OpenSpec.ofChange trieMatchesReferenceSpec)

/-- ITS FALSE NEIGHBOUR: 'it returns false'. Refute it at one input. -/
def trieMatchesReferenceWrong : ChangeSpec := { name := "trieMatchesReference", fn := fun _ => fun
  | [d1, d2, d3, d4, d5, d6] => { results := [.lit (.bool false)], args := [d1, d2, d3, d4, d5, d6] }
  | _ => none }
def TrieMatchesReferenceWrongFalsely : Prop := trieMatchesReferenceRow.holds Tryd.pinned (OpenSpec.ofChange trieMatchesReferenceWrong)

/-- 'porismlaw12.TrieInverse': WHATEVER THE INPUT: true; the input reads as it did. -/
def trieInverseSpec : ChangeSpec := { name := "trieInverse", fn := fun _ => fun
  | [d1, d2, d3] => { results := [.lit (.bool true)], args := [d1, d2, d3] }
  | _ => none }
def trieInverseRow : OpenClaim := { program := "ytdibijhaiaiifaadoor", sum := "d74caf0788f61e6a03c25386ab4427222a502402818e7f93cd8fe64a0a16ad43", func := "porism/porismlaw12.TrieInverse", spec := "trieInverse", unfollowed := true, recurses := true, named := ["math/bits.deBruijn64tab"], loops := true, apart := false, laid := [("math/bits.deBruijn64tab", laid_math_bits_deBruijn64tab)] }
def TrieInverseSaid : Prop := trieInverseRow.holds Tryd.pinned (OpenSpec.ofChange trieInverseSpec)

/-- ITS FALSE NEIGHBOUR: 'it returns false'. Refute it at one input. -/
def trieInverseWrong : ChangeSpec := { name := "trieInverse", fn := fun _ => fun
  | [d1, d2, d3] => { results := [.lit (.bool false)], args := [d1, d2, d3] }
  | _ => none }
def TrieInverseWrongFalsely : Prop := trieInverseRow.holds Tryd.pinned (OpenSpec.ofChange trieInverseWrong)

/-- 'porismlaw12.TrieSeeks': WHATEVER THE INPUT: true; the input reads as it did. -/
def trieSeeksSpec : ChangeSpec := { name := "trieSeeks", fn := fun _ => fun
  | [d1, d2, d3, d4] => { results := [.lit (.bool true)], args := [d1, d2, d3, d4] }
  | _ => none }
def trieSeeksRow : OpenClaim := { program := "ytdibijhaiaiifaadoor", sum := "d74caf0788f61e6a03c25386ab4427222a502402818e7f93cd8fe64a0a16ad43", func := "porism/porismlaw12.TrieSeeks", spec := "trieSeeks", unfollowed := true, recurses := true, named := ["math/bits.deBruijn64tab"], apart := false, laid := [("math/bits.deBruijn64tab", laid_math_bits_deBruijn64tab)] }
def TrieSeeksSaid : Prop := trieSeeksRow.holds Tryd.pinned (OpenSpec.ofChange trieSeeksSpec)

/-- ITS FALSE NEIGHBOUR: 'it returns false'. Refute it at one input. -/
def trieSeeksWrong : ChangeSpec := { name := "trieSeeks", fn := fun _ => fun
  | [d1, d2, d3, d4] => { results := [.lit (.bool false)], args := [d1, d2, d3, d4] }
  | _ => none }
def TrieSeeksWrongFalsely : Prop := trieSeeksRow.holds Tryd.pinned (OpenSpec.ofChange trieSeeksWrong)

/-- 'porismlaw12.TrieCommon': WHATEVER THE INPUT: true; the input reads as it did. -/
def trieCommonSpec : ChangeSpec := { name := "trieCommon", fn := fun _ => fun
  | [d1, d2, d3, d4, d5] => { results := [.lit (.bool true)], args := [d1, d2, d3, d4, d5] }
  | _ => none }
def trieCommonRow : OpenClaim := { program := "ytdibijhaiaiifaadoor", sum := "d74caf0788f61e6a03c25386ab4427222a502402818e7f93cd8fe64a0a16ad43", func := "porism/porismlaw12.TrieCommon", spec := "trieCommon", unfollowed := true, recurses := true, named := ["math/bits.deBruijn64tab"], apart := false, laid := [("math/bits.deBruijn64tab", laid_math_bits_deBruijn64tab)] }
def TrieCommonSaid : Prop := trieCommonRow.holds Tryd.pinned (OpenSpec.ofChange trieCommonSpec)

/-- ITS FALSE NEIGHBOUR: 'it returns false'. Refute it at one input. -/
def trieCommonWrong : ChangeSpec := { name := "trieCommon", fn := fun _ => fun
  | [d1, d2, d3, d4, d5] => { results := [.lit (.bool false)], args := [d1, d2, d3, d4, d5] }
  | _ => none }
def TrieCommonWrongFalsely : Prop := trieCommonRow.holds Tryd.pinned (OpenSpec.ofChange trieCommonWrong)

/-- 'porismlaw12.TrieCanonical': WHATEVER THE INPUT: true; the input reads as it did. -/
def trieCanonicalSpec : ChangeSpec := { name := "trieCanonical", fn := fun _ => fun
  | [d1, d2, d3] => { results := [.lit (.bool true)], args := [d1, d2, d3] }
  | _ => none }
def trieCanonicalRow : OpenClaim := { program := "ytdibijhaiaiifaadoor", sum := "d74caf0788f61e6a03c25386ab4427222a502402818e7f93cd8fe64a0a16ad43", func := "porism/porismlaw12.TrieCanonical", spec := "trieCanonical", unfollowed := true, recurses := true, named := ["math/bits.deBruijn64tab"], apart := false, laid := [("math/bits.deBruijn64tab", laid_math_bits_deBruijn64tab)] }
def TrieCanonicalSaid : Prop := trieCanonicalRow.holds Tryd.pinned (OpenSpec.ofChange trieCanonicalSpec)

/-- ITS FALSE NEIGHBOUR: 'it returns false'. Refute it at one input. -/
def trieCanonicalWrong : ChangeSpec := { name := "trieCanonical", fn := fun _ => fun
  | [d1, d2, d3] => { results := [.lit (.bool false)], args := [d1, d2, d3] }
  | _ => none }
def TrieCanonicalWrongFalsely : Prop := trieCanonicalRow.holds Tryd.pinned (OpenSpec.ofChange trieCanonicalWrong)

/-- 'porismlaw12.TriePrefixes': WHATEVER THE INPUT: true; the input reads as it did. -/
def triePrefixesSpec : ChangeSpec := { name := "triePrefixes", fn := fun _ => fun
  | [d1, d2, d3, d4] => { results := [.lit (.bool true)], args := [d1, d2, d3, d4] }
  | _ => none }
def triePrefixesRow : OpenClaim := { program := "ytdibijhaiaiifaadoor", sum := "d74caf0788f61e6a03c25386ab4427222a502402818e7f93cd8fe64a0a16ad43", func := "porism/porismlaw12.TriePrefixes", spec := "triePrefixes", unfollowed := true, recurses := true, named := ["math/bits.deBruijn64tab"], apart := false, laid := [("math/bits.deBruijn64tab", laid_math_bits_deBruijn64tab)] }
def TriePrefixesSaid : Prop := triePrefixesRow.holds Tryd.pinned (OpenSpec.ofChange triePrefixesSpec)

/-- ITS FALSE NEIGHBOUR: 'it returns false'. Refute it at one input. -/
def triePrefixesWrong : ChangeSpec := { name := "triePrefixes", fn := fun _ => fun
  | [d1, d2, d3, d4] => { results := [.lit (.bool false)], args := [d1, d2, d3, d4] }
  | _ => none }
def TriePrefixesWrongFalsely : Prop := triePrefixesRow.holds Tryd.pinned (OpenSpec.ofChange triePrefixesWrong)

/- THE SECOND FORM. 'bulk': how many values and letters a reading holds, each counted each time it is reached (what is shared counts as often as it is met; a slice's spare places count too). A statement '..UptoSaid' is the law's where the arguments, and the package variables that the reading takes, are together of bulk at most 1048576: NARROWER than '..Said'. Prove '..Said' where nothing that the law and all that it calls make is longer than what came in: it says more and counts as full. Else prove '..UptoSaid'. A law counts once. -/
mutual
def uptoBulk {H : Type} : DataW H → Nat
  | .lit (.string bytes) => bytes.length + 1
  | .lit _ => 1
  | .nil => 1
  | .ptr d => uptoBulk d + 1
  | .slice elems spare => uptoBulkAll elems + uptoBulkAll spare + 1
  | .agg parts => uptoBulkAll parts + 1
  | .iface _ d => uptoBulk d + 1
  | .map entries => uptoBulkEntries entries + 1
  | .held _ => 1
def uptoBulkAll {H : Type} : List (DataW H) → Nat
  | [] => 0
  | d :: r => uptoBulk d + uptoBulkAll r
def uptoBulkEntries {H : Type} : List (Lit × DataW H) → Nat
  | [] => 0
  | x :: r => uptoBulkEntry x + uptoBulkEntries r
def uptoBulkEntry {H : Type} : Lit × DataW H → Nat
  | (.string bytes, d) => bytes.length + uptoBulk d + 1
  | (_, d) => uptoBulk d + 1
 end
def uptoSmall : (H : Type) → List (DataW H) → Bool := fun _ ds => decide (uptoBulkAll ds ≤ 1048576)
def OpenSpec.upto (s : _root_.Go.ChangeSpec) : _root_.Go.OpenSpec := { _root_.Go.OpenSpec.ofChange s with cond := some uptoSmall }

/-- 'porismlaw10.RelationMatchesReference', WHERE WHAT IT READS IS OF BULK AT MOST 1048576: true; the input reads as it did. -/
def relationMatchesReferenceUptoRow : OpenClaim := { program := "ytdibijhaiaiifaadoor", sum := "d74caf0788f61e6a03c25386ab4427222a502402818e7f93cd8fe64a0a16ad43", func := "porism/porismlaw10.RelationMatchesReference", spec := "relationMatchesReference", unfollowed := true, recurses := true, named := ["math/bits.deBruijn64tab", "porism/value.words"], apart := false, laid := [("math/bits.deBruijn64tab", laid_math_bits_deBruijn64tab), ("porism/value.words", laid_porism_value_words)], narrowed := true }
def RelationMatchesReferenceUptoSaid : Prop := relationMatchesReferenceUptoRow.holds Tryd.pinned (OpenSpec.upto relationMatchesReferenceSpec)

/-- 'porismlaw10.RelationSelectMatchesReference', WHERE WHAT IT READS IS OF BULK AT MOST 1048576: true; the input reads as it did. -/
def relationSelectMatchesReferenceUptoRow : OpenClaim := { program := "ytdibijhaiaiifaadoor", sum := "d74caf0788f61e6a03c25386ab4427222a502402818e7f93cd8fe64a0a16ad43", func := "porism/porismlaw10.RelationSelectMatchesReference", spec := "relationSelectMatchesReference", unfollowed := true, recurses := true, named := ["math/bits.deBruijn64tab", "porism/value.words"], apart := false, laid := [("math/bits.deBruijn64tab", laid_math_bits_deBruijn64tab), ("porism/value.words", laid_porism_value_words)], narrowed := true }
def RelationSelectMatchesReferenceUptoSaid : Prop := relationSelectMatchesReferenceUptoRow.holds Tryd.pinned (OpenSpec.upto relationSelectMatchesReferenceSpec)

/-- 'porismlaw10.RelationPoints', WHERE WHAT IT READS IS OF BULK AT MOST 1048576: true; the input reads as it did. -/
def relationPointsUptoRow : OpenClaim := { program := "ytdibijhaiaiifaadoor", sum := "d74caf0788f61e6a03c25386ab4427222a502402818e7f93cd8fe64a0a16ad43", func := "porism/porismlaw10.RelationPoints", spec := "relationPoints", unfollowed := true, recurses := true, named := ["math/bits.deBruijn64tab", "porism/value.words"], apart := false, laid := [("math/bits.deBruijn64tab", laid_math_bits_deBruijn64tab), ("porism/value.words", laid_porism_value_words)], narrowed := true }
def RelationPointsUptoSaid : Prop := relationPointsUptoRow.holds Tryd.pinned (OpenSpec.upto relationPointsSpec)

/-- 'porismlaw10.RelationCanonical', WHERE WHAT IT READS IS OF BULK AT MOST 1048576: true; the input reads as it did. -/
def relationCanonicalUptoRow : OpenClaim := { program := "ytdibijhaiaiifaadoor", sum := "d74caf0788f61e6a03c25386ab4427222a502402818e7f93cd8fe64a0a16ad43", func := "porism/porismlaw10.RelationCanonical", spec := "relationCanonical", unfollowed := true, recurses := true, named := ["math/bits.deBruijn64tab", "porism/value.words"], apart := false, laid := [("math/bits.deBruijn64tab", laid_math_bits_deBruijn64tab), ("porism/value.words", laid_porism_value_words)], narrowed := true }
def RelationCanonicalUptoSaid : Prop := relationCanonicalUptoRow.holds Tryd.pinned (OpenSpec.upto relationCanonicalSpec)

/-- 'porismlaw10.RelationMoments', WHERE WHAT IT READS IS OF BULK AT MOST 1048576: true; the input reads as it did. -/
def relationMomentsUptoRow : OpenClaim := { program := "ytdibijhaiaiifaadoor", sum := "d74caf0788f61e6a03c25386ab4427222a502402818e7f93cd8fe64a0a16ad43", func := "porism/porismlaw10.RelationMoments", spec := "relationMoments", unfollowed := true, recurses := true, named := ["math/bits.deBruijn64tab", "porism/value.words"], apart := false, laid := [("math/bits.deBruijn64tab", laid_math_bits_deBruijn64tab), ("porism/value.words", laid_porism_value_words)], narrowed := true }
def RelationMomentsUptoSaid : Prop := relationMomentsUptoRow.holds Tryd.pinned (OpenSpec.upto relationMomentsSpec)

/-- 'porismlaw10.RelationParts', WHERE WHAT IT READS IS OF BULK AT MOST 1048576: true; the input reads as it did. -/
def relationPartsUptoRow : OpenClaim := { program := "ytdibijhaiaiifaadoor", sum := "d74caf0788f61e6a03c25386ab4427222a502402818e7f93cd8fe64a0a16ad43", func := "porism/porismlaw10.RelationParts", spec := "relationParts", unfollowed := true, recurses := true, named := ["math/bits.deBruijn64tab", "porism/value.words"], apart := false, laid := [("math/bits.deBruijn64tab", laid_math_bits_deBruijn64tab), ("porism/value.words", laid_porism_value_words)], narrowed := true }
def RelationPartsUptoSaid : Prop := relationPartsUptoRow.holds Tryd.pinned (OpenSpec.upto relationPartsSpec)

/-- 'porismlaw10.RelationOne', WHERE WHAT IT READS IS OF BULK AT MOST 1048576: true; the input reads as it did. -/
def relationOneUptoRow : OpenClaim := { program := "ytdibijhaiaiifaadoor", sum := "d74caf0788f61e6a03c25386ab4427222a502402818e7f93cd8fe64a0a16ad43", func := "porism/porismlaw10.RelationOne", spec := "relationOne", unfollowed := true, recurses := true, named := ["math/bits.deBruijn64tab", "porism/value.words"], apart := false, laid := [("math/bits.deBruijn64tab", laid_math_bits_deBruijn64tab), ("porism/value.words", laid_porism_value_words)], narrowed := true }
def RelationOneUptoSaid : Prop := relationOneUptoRow.holds Tryd.pinned (OpenSpec.upto relationOneSpec)

/-- 'porismlaw10.RelationSelection', WHERE WHAT IT READS IS OF BULK AT MOST 1048576: true; the input reads as it did. -/
def relationSelectionUptoRow : OpenClaim := { program := "ytdibijhaiaiifaadoor", sum := "d74caf0788f61e6a03c25386ab4427222a502402818e7f93cd8fe64a0a16ad43", func := "porism/porismlaw10.RelationSelection", spec := "relationSelection", unfollowed := true, recurses := true, named := ["math/bits.deBruijn64tab", "porism/value.words"], apart := false, laid := [("math/bits.deBruijn64tab", laid_math_bits_deBruijn64tab), ("porism/value.words", laid_porism_value_words)], narrowed := true }
def RelationSelectionUptoSaid : Prop := relationSelectionUptoRow.holds Tryd.pinned (OpenSpec.upto relationSelectionSpec)

/-- 'porismlaw12.TrieMatchesReference', WHERE WHAT IT READS IS OF BULK AT MOST 1048576: true; the input reads as it did. -/
def trieMatchesReferenceUptoRow : OpenClaim := { program := "ytdibijhaiaiifaadoor", sum := "d74caf0788f61e6a03c25386ab4427222a502402818e7f93cd8fe64a0a16ad43", func := "porism/porismlaw12.TrieMatchesReference", spec := "trieMatchesReference", unfollowed := true, recurses := true, named := ["math/bits.deBruijn64tab"], loops := true, apart := false, laid := [("math/bits.deBruijn64tab", laid_math_bits_deBruijn64tab)], narrowed := true }
def TrieMatchesReferenceUptoSaid : Prop := trieMatchesReferenceUptoRow.holds Tryd.pinned (OpenSpec.upto trieMatchesReferenceSpec)

/-- 'porismlaw12.TrieInverse', WHERE WHAT IT READS IS OF BULK AT MOST 1048576: true; the input reads as it did. -/
def trieInverseUptoRow : OpenClaim := { program := "ytdibijhaiaiifaadoor", sum := "d74caf0788f61e6a03c25386ab4427222a502402818e7f93cd8fe64a0a16ad43", func := "porism/porismlaw12.TrieInverse", spec := "trieInverse", unfollowed := true, recurses := true, named := ["math/bits.deBruijn64tab"], loops := true, apart := false, laid := [("math/bits.deBruijn64tab", laid_math_bits_deBruijn64tab)], narrowed := true }
def TrieInverseUptoSaid : Prop := trieInverseUptoRow.holds Tryd.pinned (OpenSpec.upto trieInverseSpec)

/-- 'porismlaw12.TrieSeeks', WHERE WHAT IT READS IS OF BULK AT MOST 1048576: true; the input reads as it did. -/
def trieSeeksUptoRow : OpenClaim := { program := "ytdibijhaiaiifaadoor", sum := "d74caf0788f61e6a03c25386ab4427222a502402818e7f93cd8fe64a0a16ad43", func := "porism/porismlaw12.TrieSeeks", spec := "trieSeeks", unfollowed := true, recurses := true, named := ["math/bits.deBruijn64tab"], apart := false, laid := [("math/bits.deBruijn64tab", laid_math_bits_deBruijn64tab)], narrowed := true }
def TrieSeeksUptoSaid : Prop := trieSeeksUptoRow.holds Tryd.pinned (OpenSpec.upto trieSeeksSpec)

/-- 'porismlaw12.TrieCommon', WHERE WHAT IT READS IS OF BULK AT MOST 1048576: true; the input reads as it did. -/
def trieCommonUptoRow : OpenClaim := { program := "ytdibijhaiaiifaadoor", sum := "d74caf0788f61e6a03c25386ab4427222a502402818e7f93cd8fe64a0a16ad43", func := "porism/porismlaw12.TrieCommon", spec := "trieCommon", unfollowed := true, recurses := true, named := ["math/bits.deBruijn64tab"], apart := false, laid := [("math/bits.deBruijn64tab", laid_math_bits_deBruijn64tab)], narrowed := true }
def TrieCommonUptoSaid : Prop := trieCommonUptoRow.holds Tryd.pinned (OpenSpec.upto trieCommonSpec)

/-- 'porismlaw12.TrieCanonical', WHERE WHAT IT READS IS OF BULK AT MOST 1048576: true; the input reads as it did. -/
def trieCanonicalUptoRow : OpenClaim := { program := "ytdibijhaiaiifaadoor", sum := "d74caf0788f61e6a03c25386ab4427222a502402818e7f93cd8fe64a0a16ad43", func := "porism/porismlaw12.TrieCanonical", spec := "trieCanonical", unfollowed := true, recurses := true, named := ["math/bits.deBruijn64tab"], apart := false, laid := [("math/bits.deBruijn64tab", laid_math_bits_deBruijn64tab)], narrowed := true }
def TrieCanonicalUptoSaid : Prop := trieCanonicalUptoRow.holds Tryd.pinned (OpenSpec.upto trieCanonicalSpec)

/-- 'porismlaw12.TriePrefixes', WHERE WHAT IT READS IS OF BULK AT MOST 1048576: true; the input reads as it did. -/
def triePrefixesUptoRow : OpenClaim := { program := "ytdibijhaiaiifaadoor", sum := "d74caf0788f61e6a03c25386ab4427222a502402818e7f93cd8fe64a0a16ad43", func := "porism/porismlaw12.TriePrefixes", spec := "triePrefixes", unfollowed := true, recurses := true, named := ["math/bits.deBruijn64tab"], apart := false, laid := [("math/bits.deBruijn64tab", laid_math_bits_deBruijn64tab)], narrowed := true }
def TriePrefixesUptoSaid : Prop := triePrefixesUptoRow.holds Tryd.pinned (OpenSpec.upto triePrefixesSpec)

end Rows
end Go.Proofs.YtdibijhaiaiifaaDoor
