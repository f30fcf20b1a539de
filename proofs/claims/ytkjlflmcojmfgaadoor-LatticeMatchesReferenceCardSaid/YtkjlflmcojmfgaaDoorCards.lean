/-
  DERIVED. GIVEN WITH THE SEED: THE CARDS: each row of YtkjlflmcojmfgaaDoorRows.lean that lists a variable, with what it lists TIED to the program's text (the seventh form; the later family's looks); each row that meets fmt, with fmt's text TOLD by the authors' own Lean function (tested against real Go, not proved from fmt's source: count such statements apart). THE CARD IS WHAT COUNTS. Prove the row's statement (the work); the ties are given (YtkjlflmcojmfgaaDoorTie.lean); close each card by the builder's one call (the guide's Derived/Test/ToyasCard.lean, 'card_holds'). Laid BY PROGRAM, IN A SANDBOX (cutbox-door.mjs). By AI agents, Wed Nov 11 2026. No macro, syntax, notation, axiom, sorry.
-/
import Derived.Test.YtkjlflmcojmfgaaDoorRows
import GoSem.ClaimSeven
namespace Go.Proofs.YtkjlflmcojmfgaaDoor
namespace Rows

/-- THE TIED CARD OF 'porismlaw03.LatticeMatchesReference'. -/
def latticeMatchesReferenceCard : Claim7 := { stood := { row := latticeMatchesReferenceRow, standIns := [], harness := (true, "36f002c7eba834de4d969e92ed1e6408ab6bf2e40912f54301166aac780c1ae3"), looks := false }, kinds := [], alts := [], laidByText := true, laidKinds := [.widerDeep, .data], laidTests := true, laidLooks := .later }
def LatticeMatchesReferenceCardSaid : Prop := Claim7.holds Tryd.pinned (.plain (OpenSpec.ofChange latticeMatchesReferenceSpec)) latticeMatchesReferenceCard

/-- THE TIED CARD OF 'porismlaw03.LatticeOrder'. -/
def latticeOrderCard : Claim7 := { stood := { row := latticeOrderRow, standIns := [], harness := (true, "36f002c7eba834de4d969e92ed1e6408ab6bf2e40912f54301166aac780c1ae3"), looks := false }, kinds := [], alts := [], laidByText := true, laidKinds := [.widerDeep], laidTests := true, laidLooks := .later }
def LatticeOrderCardSaid : Prop := Claim7.holds Tryd.pinned (.plain (OpenSpec.ofChange latticeOrderSpec)) latticeOrderCard

/-- THE TIED CARD OF 'porismlaw03.LatticeJoins'. -/
def latticeJoinsCard : Claim7 := { stood := { row := latticeJoinsRow, standIns := [], harness := (true, "36f002c7eba834de4d969e92ed1e6408ab6bf2e40912f54301166aac780c1ae3"), looks := false }, kinds := [], alts := [], laidByText := true, laidKinds := [.widerDeep], laidTests := true, laidLooks := .later }
def LatticeJoinsCardSaid : Prop := Claim7.holds Tryd.pinned (.plain (OpenSpec.ofChange latticeJoinsSpec)) latticeJoinsCard

/-- THE TIED CARD OF 'porismlaw03.LatticeLists'. -/
def latticeListsCard : Claim7 := { stood := { row := latticeListsRow, standIns := [], harness := (true, "36f002c7eba834de4d969e92ed1e6408ab6bf2e40912f54301166aac780c1ae3"), looks := false }, kinds := [], alts := [], laidByText := true, laidKinds := [.widerDeep], laidTests := true, laidLooks := .later }
def LatticeListsCardSaid : Prop := Claim7.holds Tryd.pinned (.plain (OpenSpec.ofChange latticeListsSpec)) latticeListsCard

/-- THE TIED CARD OF 'porismlaw03.LatticeIrreducible'. -/
def latticeIrreducibleCard : Claim7 := { stood := { row := latticeIrreducibleRow, standIns := [], harness := (true, "36f002c7eba834de4d969e92ed1e6408ab6bf2e40912f54301166aac780c1ae3"), looks := false }, kinds := [], alts := [], laidByText := true, laidKinds := [.widerDeep], laidTests := true, laidLooks := .later }
def LatticeIrreducibleCardSaid : Prop := Claim7.holds Tryd.pinned (.plain (OpenSpec.ofChange latticeIrreducibleSpec)) latticeIrreducibleCard

/-- THE TIED CARD OF 'porismlaw03.LatticeFunctions'. -/
def latticeFunctionsCard : Claim7 := { stood := { row := latticeFunctionsRow, standIns := [], harness := (true, "36f002c7eba834de4d969e92ed1e6408ab6bf2e40912f54301166aac780c1ae3"), looks := false }, kinds := [], alts := [], laidByText := true, laidKinds := [.widerDeep], laidTests := true, laidLooks := .later }
def LatticeFunctionsCardSaid : Prop := Claim7.holds Tryd.pinned (.plain (OpenSpec.ofChange latticeFunctionsSpec)) latticeFunctionsCard

/-- THE TIED CARD OF 'porismlaw03.LatticeNames'. -/
def latticeNamesCard : Claim7 := { stood := { row := latticeNamesRow, standIns := [], harness := (true, "36f002c7eba834de4d969e92ed1e6408ab6bf2e40912f54301166aac780c1ae3"), looks := false }, kinds := [], alts := [], laidByText := true, laidKinds := [.widerDeep], laidTests := true, laidLooks := .later }
def LatticeNamesCardSaid : Prop := Claim7.holds Tryd.pinned (.plain (OpenSpec.ofChange latticeNamesSpec)) latticeNamesCard

/-- THE SECOND FORM's CARD OF 'porismlaw03.LatticeMatchesReference'. -/
def latticeMatchesReferenceUptoCard : Claim7 := { stood := { row := latticeMatchesReferenceUptoRow, standIns := [], harness := (true, "36f002c7eba834de4d969e92ed1e6408ab6bf2e40912f54301166aac780c1ae3"), looks := false }, kinds := [], alts := [], laidByText := true, laidKinds := [.widerDeep, .data], laidTests := true, laidLooks := .later }
def LatticeMatchesReferenceUptoCardSaid : Prop := Claim7.holds Tryd.pinned (.plain (OpenSpec.upto latticeMatchesReferenceSpec)) latticeMatchesReferenceUptoCard

/-- THE SECOND FORM's CARD OF 'porismlaw03.LatticeOrder'. -/
def latticeOrderUptoCard : Claim7 := { stood := { row := latticeOrderUptoRow, standIns := [], harness := (true, "36f002c7eba834de4d969e92ed1e6408ab6bf2e40912f54301166aac780c1ae3"), looks := false }, kinds := [], alts := [], laidByText := true, laidKinds := [.widerDeep], laidTests := true, laidLooks := .later }
def LatticeOrderUptoCardSaid : Prop := Claim7.holds Tryd.pinned (.plain (OpenSpec.upto latticeOrderSpec)) latticeOrderUptoCard

/-- THE SECOND FORM's CARD OF 'porismlaw03.LatticeJoins'. -/
def latticeJoinsUptoCard : Claim7 := { stood := { row := latticeJoinsUptoRow, standIns := [], harness := (true, "36f002c7eba834de4d969e92ed1e6408ab6bf2e40912f54301166aac780c1ae3"), looks := false }, kinds := [], alts := [], laidByText := true, laidKinds := [.widerDeep], laidTests := true, laidLooks := .later }
def LatticeJoinsUptoCardSaid : Prop := Claim7.holds Tryd.pinned (.plain (OpenSpec.upto latticeJoinsSpec)) latticeJoinsUptoCard

/-- THE SECOND FORM's CARD OF 'porismlaw03.LatticeLists'. -/
def latticeListsUptoCard : Claim7 := { stood := { row := latticeListsUptoRow, standIns := [], harness := (true, "36f002c7eba834de4d969e92ed1e6408ab6bf2e40912f54301166aac780c1ae3"), looks := false }, kinds := [], alts := [], laidByText := true, laidKinds := [.widerDeep], laidTests := true, laidLooks := .later }
def LatticeListsUptoCardSaid : Prop := Claim7.holds Tryd.pinned (.plain (OpenSpec.upto latticeListsSpec)) latticeListsUptoCard

/-- THE SECOND FORM's CARD OF 'porismlaw03.LatticeIrreducible'. -/
def latticeIrreducibleUptoCard : Claim7 := { stood := { row := latticeIrreducibleUptoRow, standIns := [], harness := (true, "36f002c7eba834de4d969e92ed1e6408ab6bf2e40912f54301166aac780c1ae3"), looks := false }, kinds := [], alts := [], laidByText := true, laidKinds := [.widerDeep], laidTests := true, laidLooks := .later }
def LatticeIrreducibleUptoCardSaid : Prop := Claim7.holds Tryd.pinned (.plain (OpenSpec.upto latticeIrreducibleSpec)) latticeIrreducibleUptoCard

/-- THE SECOND FORM's CARD OF 'porismlaw03.LatticeFunctions'. -/
def latticeFunctionsUptoCard : Claim7 := { stood := { row := latticeFunctionsUptoRow, standIns := [], harness := (true, "36f002c7eba834de4d969e92ed1e6408ab6bf2e40912f54301166aac780c1ae3"), looks := false }, kinds := [], alts := [], laidByText := true, laidKinds := [.widerDeep], laidTests := true, laidLooks := .later }
def LatticeFunctionsUptoCardSaid : Prop := Claim7.holds Tryd.pinned (.plain (OpenSpec.upto latticeFunctionsSpec)) latticeFunctionsUptoCard

/-- THE SECOND FORM's CARD OF 'porismlaw03.LatticeNames'. -/
def latticeNamesUptoCard : Claim7 := { stood := { row := latticeNamesUptoRow, standIns := [], harness := (true, "36f002c7eba834de4d969e92ed1e6408ab6bf2e40912f54301166aac780c1ae3"), looks := false }, kinds := [], alts := [], laidByText := true, laidKinds := [.widerDeep], laidTests := true, laidLooks := .later }
def LatticeNamesUptoCardSaid : Prop := Claim7.holds Tryd.pinned (.plain (OpenSpec.upto latticeNamesSpec)) latticeNamesUptoCard
end Rows
end Go.Proofs.YtkjlflmcojmfgaaDoor
