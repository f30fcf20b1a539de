/-
  DERIVED. GIVEN WITH THE SEED: THE CARDS: each row of YtdibijhaiaiifaaDoorRows.lean that lists a variable, with what it lists TIED to the program's text (the seventh form; the later family's looks); each row that meets fmt, with fmt's text TOLD by the authors' own Lean function (tested against real Go, not proved from fmt's source: count such statements apart). THE CARD IS WHAT COUNTS. Prove the row's statement (the work); the ties are given (YtdibijhaiaiifaaDoorTie.lean); close each card by the builder's one call (the guide's Derived/Test/ToyasCard.lean, 'card_holds'). Laid BY PROGRAM, IN A SANDBOX (cutbox-door.mjs). By AI agents, Wed Nov 11 2026. No macro, syntax, notation, axiom, sorry.
-/
import Derived.Test.YtdibijhaiaiifaaDoorRows
import GoSem.ClaimSeven
namespace Go.Proofs.YtdibijhaiaiifaaDoor
namespace Rows

/-- THE TIED CARD OF 'porismlaw10.RelationMatchesReference'. -/
def relationMatchesReferenceCard : Claim7 := { stood := { row := relationMatchesReferenceRow, standIns := [], harness := (true, "ffb912df58fa54d9348219da793d875ec4f561370b8281fda03f578d2b09920c"), looks := false }, kinds := [], alts := [], laidByText := true, laidKinds := [.data, .widerDeep], laidTests := true, laidLooks := .later }
def RelationMatchesReferenceCardSaid : Prop := Claim7.holds Tryd.pinned (.plain (OpenSpec.ofChange relationMatchesReferenceSpec)) relationMatchesReferenceCard

/-- THE TIED CARD OF 'porismlaw10.RelationSelectMatchesReference'. -/
def relationSelectMatchesReferenceCard : Claim7 := { stood := { row := relationSelectMatchesReferenceRow, standIns := [], harness := (true, "ffb912df58fa54d9348219da793d875ec4f561370b8281fda03f578d2b09920c"), looks := false }, kinds := [], alts := [], laidByText := true, laidKinds := [.data, .widerDeep], laidTests := true, laidLooks := .later }
def RelationSelectMatchesReferenceCardSaid : Prop := Claim7.holds Tryd.pinned (.plain (OpenSpec.ofChange relationSelectMatchesReferenceSpec)) relationSelectMatchesReferenceCard

/-- THE TIED CARD OF 'porismlaw10.RelationPoints'. -/
def relationPointsCard : Claim7 := { stood := { row := relationPointsRow, standIns := [], harness := (true, "ffb912df58fa54d9348219da793d875ec4f561370b8281fda03f578d2b09920c"), looks := false }, kinds := [], alts := [], laidByText := true, laidKinds := [.data, .widerDeep], laidTests := true, laidLooks := .later }
def RelationPointsCardSaid : Prop := Claim7.holds Tryd.pinned (.plain (OpenSpec.ofChange relationPointsSpec)) relationPointsCard

/-- THE TIED CARD OF 'porismlaw10.RelationCanonical'. -/
def relationCanonicalCard : Claim7 := { stood := { row := relationCanonicalRow, standIns := [], harness := (true, "ffb912df58fa54d9348219da793d875ec4f561370b8281fda03f578d2b09920c"), looks := false }, kinds := [], alts := [], laidByText := true, laidKinds := [.data, .widerDeep], laidTests := true, laidLooks := .later }
def RelationCanonicalCardSaid : Prop := Claim7.holds Tryd.pinned (.plain (OpenSpec.ofChange relationCanonicalSpec)) relationCanonicalCard

/-- THE TIED CARD OF 'porismlaw10.RelationMoments'. -/
def relationMomentsCard : Claim7 := { stood := { row := relationMomentsRow, standIns := [], harness := (true, "ffb912df58fa54d9348219da793d875ec4f561370b8281fda03f578d2b09920c"), looks := false }, kinds := [], alts := [], laidByText := true, laidKinds := [.data, .widerDeep], laidTests := true, laidLooks := .later }
def RelationMomentsCardSaid : Prop := Claim7.holds Tryd.pinned (.plain (OpenSpec.ofChange relationMomentsSpec)) relationMomentsCard

/-- THE TIED CARD OF 'porismlaw10.RelationParts'. -/
def relationPartsCard : Claim7 := { stood := { row := relationPartsRow, standIns := [], harness := (true, "ffb912df58fa54d9348219da793d875ec4f561370b8281fda03f578d2b09920c"), looks := false }, kinds := [], alts := [], laidByText := true, laidKinds := [.data, .widerDeep], laidTests := true, laidLooks := .later }
def RelationPartsCardSaid : Prop := Claim7.holds Tryd.pinned (.plain (OpenSpec.ofChange relationPartsSpec)) relationPartsCard

/-- THE TIED CARD OF 'porismlaw10.RelationOne'. -/
def relationOneCard : Claim7 := { stood := { row := relationOneRow, standIns := [], harness := (true, "ffb912df58fa54d9348219da793d875ec4f561370b8281fda03f578d2b09920c"), looks := false }, kinds := [], alts := [], laidByText := true, laidKinds := [.data, .widerDeep], laidTests := true, laidLooks := .later }
def RelationOneCardSaid : Prop := Claim7.holds Tryd.pinned (.plain (OpenSpec.ofChange relationOneSpec)) relationOneCard

/-- THE TIED CARD OF 'porismlaw10.RelationSelection'. -/
def relationSelectionCard : Claim7 := { stood := { row := relationSelectionRow, standIns := [], harness := (true, "ffb912df58fa54d9348219da793d875ec4f561370b8281fda03f578d2b09920c"), looks := false }, kinds := [], alts := [], laidByText := true, laidKinds := [.data, .widerDeep], laidTests := true, laidLooks := .later }
def RelationSelectionCardSaid : Prop := Claim7.holds Tryd.pinned (.plain (OpenSpec.ofChange relationSelectionSpec)) relationSelectionCard

/-- THE TIED CARD OF 'porismlaw12.TrieMatchesReference'. -/
def trieMatchesReferenceCard : Claim7 := { stood := { row := trieMatchesReferenceRow, standIns := [], harness := (true, "ffb912df58fa54d9348219da793d875ec4f561370b8281fda03f578d2b09920c"), looks := false }, kinds := [], alts := [], laidByText := true, laidKinds := [.data], laidTests := true, laidLooks := .later }
def TrieMatchesReferenceCardSaid : Prop := Claim7.holds Tryd.pinned (.plain (OpenSpec.ofChange trieMatchesReferenceSpec)) trieMatchesReferenceCard

/-- THE TIED CARD OF 'porismlaw12.TrieInverse'. -/
def trieInverseCard : Claim7 := { stood := { row := trieInverseRow, standIns := [], harness := (true, "ffb912df58fa54d9348219da793d875ec4f561370b8281fda03f578d2b09920c"), looks := false }, kinds := [], alts := [], laidByText := true, laidKinds := [.data], laidTests := true, laidLooks := .later }
def TrieInverseCardSaid : Prop := Claim7.holds Tryd.pinned (.plain (OpenSpec.ofChange trieInverseSpec)) trieInverseCard

/-- THE TIED CARD OF 'porismlaw12.TrieSeeks'. -/
def trieSeeksCard : Claim7 := { stood := { row := trieSeeksRow, standIns := [], harness := (true, "ffb912df58fa54d9348219da793d875ec4f561370b8281fda03f578d2b09920c"), looks := false }, kinds := [], alts := [], laidByText := true, laidKinds := [.data], laidTests := true, laidLooks := .later }
def TrieSeeksCardSaid : Prop := Claim7.holds Tryd.pinned (.plain (OpenSpec.ofChange trieSeeksSpec)) trieSeeksCard

/-- THE TIED CARD OF 'porismlaw12.TrieCommon'. -/
def trieCommonCard : Claim7 := { stood := { row := trieCommonRow, standIns := [], harness := (true, "ffb912df58fa54d9348219da793d875ec4f561370b8281fda03f578d2b09920c"), looks := false }, kinds := [], alts := [], laidByText := true, laidKinds := [.data], laidTests := true, laidLooks := .later }
def TrieCommonCardSaid : Prop := Claim7.holds Tryd.pinned (.plain (OpenSpec.ofChange trieCommonSpec)) trieCommonCard

/-- THE TIED CARD OF 'porismlaw12.TrieCanonical'. -/
def trieCanonicalCard : Claim7 := { stood := { row := trieCanonicalRow, standIns := [], harness := (true, "ffb912df58fa54d9348219da793d875ec4f561370b8281fda03f578d2b09920c"), looks := false }, kinds := [], alts := [], laidByText := true, laidKinds := [.data], laidTests := true, laidLooks := .later }
def TrieCanonicalCardSaid : Prop := Claim7.holds Tryd.pinned (.plain (OpenSpec.ofChange trieCanonicalSpec)) trieCanonicalCard

/-- THE TIED CARD OF 'porismlaw12.TriePrefixes'. -/
def triePrefixesCard : Claim7 := { stood := { row := triePrefixesRow, standIns := [], harness := (true, "ffb912df58fa54d9348219da793d875ec4f561370b8281fda03f578d2b09920c"), looks := false }, kinds := [], alts := [], laidByText := true, laidKinds := [.data], laidTests := true, laidLooks := .later }
def TriePrefixesCardSaid : Prop := Claim7.holds Tryd.pinned (.plain (OpenSpec.ofChange triePrefixesSpec)) triePrefixesCard

/-- THE SECOND FORM's CARD OF 'porismlaw10.RelationMatchesReference'. -/
def relationMatchesReferenceUptoCard : Claim7 := { stood := { row := relationMatchesReferenceUptoRow, standIns := [], harness := (true, "ffb912df58fa54d9348219da793d875ec4f561370b8281fda03f578d2b09920c"), looks := false }, kinds := [], alts := [], laidByText := true, laidKinds := [.data, .widerDeep], laidTests := true, laidLooks := .later }
def RelationMatchesReferenceUptoCardSaid : Prop := Claim7.holds Tryd.pinned (.plain (OpenSpec.upto relationMatchesReferenceSpec)) relationMatchesReferenceUptoCard

/-- THE SECOND FORM's CARD OF 'porismlaw10.RelationSelectMatchesReference'. -/
def relationSelectMatchesReferenceUptoCard : Claim7 := { stood := { row := relationSelectMatchesReferenceUptoRow, standIns := [], harness := (true, "ffb912df58fa54d9348219da793d875ec4f561370b8281fda03f578d2b09920c"), looks := false }, kinds := [], alts := [], laidByText := true, laidKinds := [.data, .widerDeep], laidTests := true, laidLooks := .later }
def RelationSelectMatchesReferenceUptoCardSaid : Prop := Claim7.holds Tryd.pinned (.plain (OpenSpec.upto relationSelectMatchesReferenceSpec)) relationSelectMatchesReferenceUptoCard

/-- THE SECOND FORM's CARD OF 'porismlaw10.RelationPoints'. -/
def relationPointsUptoCard : Claim7 := { stood := { row := relationPointsUptoRow, standIns := [], harness := (true, "ffb912df58fa54d9348219da793d875ec4f561370b8281fda03f578d2b09920c"), looks := false }, kinds := [], alts := [], laidByText := true, laidKinds := [.data, .widerDeep], laidTests := true, laidLooks := .later }
def RelationPointsUptoCardSaid : Prop := Claim7.holds Tryd.pinned (.plain (OpenSpec.upto relationPointsSpec)) relationPointsUptoCard

/-- THE SECOND FORM's CARD OF 'porismlaw10.RelationCanonical'. -/
def relationCanonicalUptoCard : Claim7 := { stood := { row := relationCanonicalUptoRow, standIns := [], harness := (true, "ffb912df58fa54d9348219da793d875ec4f561370b8281fda03f578d2b09920c"), looks := false }, kinds := [], alts := [], laidByText := true, laidKinds := [.data, .widerDeep], laidTests := true, laidLooks := .later }
def RelationCanonicalUptoCardSaid : Prop := Claim7.holds Tryd.pinned (.plain (OpenSpec.upto relationCanonicalSpec)) relationCanonicalUptoCard

/-- THE SECOND FORM's CARD OF 'porismlaw10.RelationMoments'. -/
def relationMomentsUptoCard : Claim7 := { stood := { row := relationMomentsUptoRow, standIns := [], harness := (true, "ffb912df58fa54d9348219da793d875ec4f561370b8281fda03f578d2b09920c"), looks := false }, kinds := [], alts := [], laidByText := true, laidKinds := [.data, .widerDeep], laidTests := true, laidLooks := .later }
def RelationMomentsUptoCardSaid : Prop := Claim7.holds Tryd.pinned (.plain (OpenSpec.upto relationMomentsSpec)) relationMomentsUptoCard

/-- THE SECOND FORM's CARD OF 'porismlaw10.RelationParts'. -/
def relationPartsUptoCard : Claim7 := { stood := { row := relationPartsUptoRow, standIns := [], harness := (true, "ffb912df58fa54d9348219da793d875ec4f561370b8281fda03f578d2b09920c"), looks := false }, kinds := [], alts := [], laidByText := true, laidKinds := [.data, .widerDeep], laidTests := true, laidLooks := .later }
def RelationPartsUptoCardSaid : Prop := Claim7.holds Tryd.pinned (.plain (OpenSpec.upto relationPartsSpec)) relationPartsUptoCard

/-- THE SECOND FORM's CARD OF 'porismlaw10.RelationOne'. -/
def relationOneUptoCard : Claim7 := { stood := { row := relationOneUptoRow, standIns := [], harness := (true, "ffb912df58fa54d9348219da793d875ec4f561370b8281fda03f578d2b09920c"), looks := false }, kinds := [], alts := [], laidByText := true, laidKinds := [.data, .widerDeep], laidTests := true, laidLooks := .later }
def RelationOneUptoCardSaid : Prop := Claim7.holds Tryd.pinned (.plain (OpenSpec.upto relationOneSpec)) relationOneUptoCard

/-- THE SECOND FORM's CARD OF 'porismlaw10.RelationSelection'. -/
def relationSelectionUptoCard : Claim7 := { stood := { row := relationSelectionUptoRow, standIns := [], harness := (true, "ffb912df58fa54d9348219da793d875ec4f561370b8281fda03f578d2b09920c"), looks := false }, kinds := [], alts := [], laidByText := true, laidKinds := [.data, .widerDeep], laidTests := true, laidLooks := .later }
def RelationSelectionUptoCardSaid : Prop := Claim7.holds Tryd.pinned (.plain (OpenSpec.upto relationSelectionSpec)) relationSelectionUptoCard

/-- THE SECOND FORM's CARD OF 'porismlaw12.TrieMatchesReference'. -/
def trieMatchesReferenceUptoCard : Claim7 := { stood := { row := trieMatchesReferenceUptoRow, standIns := [], harness := (true, "ffb912df58fa54d9348219da793d875ec4f561370b8281fda03f578d2b09920c"), looks := false }, kinds := [], alts := [], laidByText := true, laidKinds := [.data], laidTests := true, laidLooks := .later }
def TrieMatchesReferenceUptoCardSaid : Prop := Claim7.holds Tryd.pinned (.plain (OpenSpec.upto trieMatchesReferenceSpec)) trieMatchesReferenceUptoCard

/-- THE SECOND FORM's CARD OF 'porismlaw12.TrieInverse'. -/
def trieInverseUptoCard : Claim7 := { stood := { row := trieInverseUptoRow, standIns := [], harness := (true, "ffb912df58fa54d9348219da793d875ec4f561370b8281fda03f578d2b09920c"), looks := false }, kinds := [], alts := [], laidByText := true, laidKinds := [.data], laidTests := true, laidLooks := .later }
def TrieInverseUptoCardSaid : Prop := Claim7.holds Tryd.pinned (.plain (OpenSpec.upto trieInverseSpec)) trieInverseUptoCard

/-- THE SECOND FORM's CARD OF 'porismlaw12.TrieSeeks'. -/
def trieSeeksUptoCard : Claim7 := { stood := { row := trieSeeksUptoRow, standIns := [], harness := (true, "ffb912df58fa54d9348219da793d875ec4f561370b8281fda03f578d2b09920c"), looks := false }, kinds := [], alts := [], laidByText := true, laidKinds := [.data], laidTests := true, laidLooks := .later }
def TrieSeeksUptoCardSaid : Prop := Claim7.holds Tryd.pinned (.plain (OpenSpec.upto trieSeeksSpec)) trieSeeksUptoCard

/-- THE SECOND FORM's CARD OF 'porismlaw12.TrieCommon'. -/
def trieCommonUptoCard : Claim7 := { stood := { row := trieCommonUptoRow, standIns := [], harness := (true, "ffb912df58fa54d9348219da793d875ec4f561370b8281fda03f578d2b09920c"), looks := false }, kinds := [], alts := [], laidByText := true, laidKinds := [.data], laidTests := true, laidLooks := .later }
def TrieCommonUptoCardSaid : Prop := Claim7.holds Tryd.pinned (.plain (OpenSpec.upto trieCommonSpec)) trieCommonUptoCard

/-- THE SECOND FORM's CARD OF 'porismlaw12.TrieCanonical'. -/
def trieCanonicalUptoCard : Claim7 := { stood := { row := trieCanonicalUptoRow, standIns := [], harness := (true, "ffb912df58fa54d9348219da793d875ec4f561370b8281fda03f578d2b09920c"), looks := false }, kinds := [], alts := [], laidByText := true, laidKinds := [.data], laidTests := true, laidLooks := .later }
def TrieCanonicalUptoCardSaid : Prop := Claim7.holds Tryd.pinned (.plain (OpenSpec.upto trieCanonicalSpec)) trieCanonicalUptoCard

/-- THE SECOND FORM's CARD OF 'porismlaw12.TriePrefixes'. -/
def triePrefixesUptoCard : Claim7 := { stood := { row := triePrefixesUptoRow, standIns := [], harness := (true, "ffb912df58fa54d9348219da793d875ec4f561370b8281fda03f578d2b09920c"), looks := false }, kinds := [], alts := [], laidByText := true, laidKinds := [.data], laidTests := true, laidLooks := .later }
def TriePrefixesUptoCardSaid : Prop := Claim7.holds Tryd.pinned (.plain (OpenSpec.upto triePrefixesSpec)) triePrefixesUptoCard
end Rows
end Go.Proofs.YtdibijhaiaiifaaDoor
