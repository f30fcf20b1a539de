/-
  DERIVED. GIVEN WITH THE SEED: THE CARDS: each row of YtcbopckgnbameaaDoorRows.lean that lists a variable, with what it lists TIED to the program's text (the seventh form; the later family's looks); each row that meets fmt, with fmt's text TOLD by the authors' own Lean function (tested against real Go, not proved from fmt's source: count such statements apart). THE CARD IS WHAT COUNTS. Prove the row's statement (the work); the ties are given (YtcbopckgnbameaaDoorTie.lean); close each card by the builder's one call (the guide's Derived/Test/ToyasCard.lean, 'card_holds'). Laid BY PROGRAM, IN A SANDBOX (cutbox-door.mjs). By AI agents, Wed Nov 11 2026. No macro, syntax, notation, axiom, sorry.
-/
import Derived.Test.YtcbopckgnbameaaDoorRows
import GoSem.ClaimSeven
namespace Go.Proofs.YtcbopckgnbameaaDoor
namespace Rows

/-- THE TIED CARD OF 'porismlaw01.IntervalMatchesReference'. -/
def intervalMatchesReferenceCard : Claim7 := { stood := { row := intervalMatchesReferenceRow, standIns := [], harness := (true, "aaa32ca7e2ffa6f6abbd7a81cfd996a423807111edf4db787b6c25e07732c575"), looks := false }, kinds := [], alts := [], laidByText := true, laidKinds := [.data], laidTests := true, laidLooks := .later }
def IntervalMatchesReferenceCardSaid : Prop := Claim7.holds Tryd.pinned (.plain (OpenSpec.ofChange intervalMatchesReferenceSpec)) intervalMatchesReferenceCard

/-- THE TIED CARD OF 'porismlaw01.IntervalPoints'. -/
def intervalPointsCard : Claim7 := { stood := { row := intervalPointsRow, standIns := [], harness := (true, "aaa32ca7e2ffa6f6abbd7a81cfd996a423807111edf4db787b6c25e07732c575"), looks := false }, kinds := [], alts := [], laidByText := true, laidKinds := [.data], laidTests := true, laidLooks := .later }
def IntervalPointsCardSaid : Prop := Claim7.holds Tryd.pinned (.plain (OpenSpec.ofChange intervalPointsSpec)) intervalPointsCard

/-- THE TIED CARD OF 'porismlaw01.IntervalCanonical'. -/
def intervalCanonicalCard : Claim7 := { stood := { row := intervalCanonicalRow, standIns := [], harness := (true, "aaa32ca7e2ffa6f6abbd7a81cfd996a423807111edf4db787b6c25e07732c575"), looks := false }, kinds := [], alts := [], laidByText := true, laidKinds := [.data], laidTests := true, laidLooks := .later }
def IntervalCanonicalCardSaid : Prop := Claim7.holds Tryd.pinned (.plain (OpenSpec.ofChange intervalCanonicalSpec)) intervalCanonicalCard

/-- THE TIED CARD OF 'porismlaw01.IntervalAlgebra'. -/
def intervalAlgebraCard : Claim7 := { stood := { row := intervalAlgebraRow, standIns := [], harness := (true, "aaa32ca7e2ffa6f6abbd7a81cfd996a423807111edf4db787b6c25e07732c575"), looks := false }, kinds := [], alts := [], laidByText := true, laidKinds := [.data], laidTests := true, laidLooks := .later }
def IntervalAlgebraCardSaid : Prop := Claim7.holds Tryd.pinned (.plain (OpenSpec.ofChange intervalAlgebraSpec)) intervalAlgebraCard

/-- THE TIED CARD OF 'porismlaw01.IntervalMeasure'. -/
def intervalMeasureCard : Claim7 := { stood := { row := intervalMeasureRow, standIns := [], harness := (true, "aaa32ca7e2ffa6f6abbd7a81cfd996a423807111edf4db787b6c25e07732c575"), looks := false }, kinds := [], alts := [], laidByText := true, laidKinds := [.data], laidTests := true, laidLooks := .later }
def IntervalMeasureCardSaid : Prop := Claim7.holds Tryd.pinned (.plain (OpenSpec.ofChange intervalMeasureSpec)) intervalMeasureCard

/-- THE TIED CARD OF 'porismlaw01.IntervalPieces'. -/
def intervalPiecesCard : Claim7 := { stood := { row := intervalPiecesRow, standIns := [], harness := (true, "aaa32ca7e2ffa6f6abbd7a81cfd996a423807111edf4db787b6c25e07732c575"), looks := false }, kinds := [], alts := [], laidByText := true, laidKinds := [.data], laidTests := true, laidLooks := .later }
def IntervalPiecesCardSaid : Prop := Claim7.holds Tryd.pinned (.plain (OpenSpec.ofChange intervalPiecesSpec)) intervalPiecesCard

/-- THE TIED CARD OF 'porismlaw01.IntervalGaps'. -/
def intervalGapsCard : Claim7 := { stood := { row := intervalGapsRow, standIns := [], harness := (true, "aaa32ca7e2ffa6f6abbd7a81cfd996a423807111edf4db787b6c25e07732c575"), looks := false }, kinds := [], alts := [], laidByText := true, laidKinds := [.data], laidTests := true, laidLooks := .later }
def IntervalGapsCardSaid : Prop := Claim7.holds Tryd.pinned (.plain (OpenSpec.ofChange intervalGapsSpec)) intervalGapsCard

/-- THE SECOND FORM's CARD OF 'porismlaw01.IntervalMatchesReference'. -/
def intervalMatchesReferenceUptoCard : Claim7 := { stood := { row := intervalMatchesReferenceUptoRow, standIns := [], harness := (true, "aaa32ca7e2ffa6f6abbd7a81cfd996a423807111edf4db787b6c25e07732c575"), looks := false }, kinds := [], alts := [], laidByText := true, laidKinds := [.data], laidTests := true, laidLooks := .later }
def IntervalMatchesReferenceUptoCardSaid : Prop := Claim7.holds Tryd.pinned (.plain (OpenSpec.upto intervalMatchesReferenceSpec)) intervalMatchesReferenceUptoCard

/-- THE SECOND FORM's CARD OF 'porismlaw01.IntervalPoints'. -/
def intervalPointsUptoCard : Claim7 := { stood := { row := intervalPointsUptoRow, standIns := [], harness := (true, "aaa32ca7e2ffa6f6abbd7a81cfd996a423807111edf4db787b6c25e07732c575"), looks := false }, kinds := [], alts := [], laidByText := true, laidKinds := [.data], laidTests := true, laidLooks := .later }
def IntervalPointsUptoCardSaid : Prop := Claim7.holds Tryd.pinned (.plain (OpenSpec.upto intervalPointsSpec)) intervalPointsUptoCard

/-- THE SECOND FORM's CARD OF 'porismlaw01.IntervalCanonical'. -/
def intervalCanonicalUptoCard : Claim7 := { stood := { row := intervalCanonicalUptoRow, standIns := [], harness := (true, "aaa32ca7e2ffa6f6abbd7a81cfd996a423807111edf4db787b6c25e07732c575"), looks := false }, kinds := [], alts := [], laidByText := true, laidKinds := [.data], laidTests := true, laidLooks := .later }
def IntervalCanonicalUptoCardSaid : Prop := Claim7.holds Tryd.pinned (.plain (OpenSpec.upto intervalCanonicalSpec)) intervalCanonicalUptoCard

/-- THE SECOND FORM's CARD OF 'porismlaw01.IntervalAlgebra'. -/
def intervalAlgebraUptoCard : Claim7 := { stood := { row := intervalAlgebraUptoRow, standIns := [], harness := (true, "aaa32ca7e2ffa6f6abbd7a81cfd996a423807111edf4db787b6c25e07732c575"), looks := false }, kinds := [], alts := [], laidByText := true, laidKinds := [.data], laidTests := true, laidLooks := .later }
def IntervalAlgebraUptoCardSaid : Prop := Claim7.holds Tryd.pinned (.plain (OpenSpec.upto intervalAlgebraSpec)) intervalAlgebraUptoCard

/-- THE SECOND FORM's CARD OF 'porismlaw01.IntervalMeasure'. -/
def intervalMeasureUptoCard : Claim7 := { stood := { row := intervalMeasureUptoRow, standIns := [], harness := (true, "aaa32ca7e2ffa6f6abbd7a81cfd996a423807111edf4db787b6c25e07732c575"), looks := false }, kinds := [], alts := [], laidByText := true, laidKinds := [.data], laidTests := true, laidLooks := .later }
def IntervalMeasureUptoCardSaid : Prop := Claim7.holds Tryd.pinned (.plain (OpenSpec.upto intervalMeasureSpec)) intervalMeasureUptoCard

/-- THE SECOND FORM's CARD OF 'porismlaw01.IntervalPieces'. -/
def intervalPiecesUptoCard : Claim7 := { stood := { row := intervalPiecesUptoRow, standIns := [], harness := (true, "aaa32ca7e2ffa6f6abbd7a81cfd996a423807111edf4db787b6c25e07732c575"), looks := false }, kinds := [], alts := [], laidByText := true, laidKinds := [.data], laidTests := true, laidLooks := .later }
def IntervalPiecesUptoCardSaid : Prop := Claim7.holds Tryd.pinned (.plain (OpenSpec.upto intervalPiecesSpec)) intervalPiecesUptoCard

/-- THE SECOND FORM's CARD OF 'porismlaw01.IntervalGaps'. -/
def intervalGapsUptoCard : Claim7 := { stood := { row := intervalGapsUptoRow, standIns := [], harness := (true, "aaa32ca7e2ffa6f6abbd7a81cfd996a423807111edf4db787b6c25e07732c575"), looks := false }, kinds := [], alts := [], laidByText := true, laidKinds := [.data], laidTests := true, laidLooks := .later }
def IntervalGapsUptoCardSaid : Prop := Claim7.holds Tryd.pinned (.plain (OpenSpec.upto intervalGapsSpec)) intervalGapsUptoCard
end Rows
end Go.Proofs.YtcbopckgnbameaaDoor
