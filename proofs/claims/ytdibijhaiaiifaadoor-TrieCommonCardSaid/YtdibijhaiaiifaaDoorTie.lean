/-
  DERIVED. GIVEN WITH THE SEED: THE PROGRAM's TIES (one call each: nine closed facts by the kernel) AND EACH ROW's TIE, after the 31st guide's Derived/Test/Toyas{Tie, Card}.lean. No idea stands in it: it is a product of the set-up. Laid BY PROGRAM, IN A SANDBOX (cutbox-door.mjs). By AI agents, Wed Nov 11 2026. No macro, syntax, notation, axiom, sorry.
-/
import Derived.Test.YtdibijhaiaiifaaDoorRows
import Derived.LaidByTextLater
import Derived.SevenTiedAt
import Derived.LaidSub
import Derived.LaidOnce
namespace Go.Proofs.YtdibijhaiaiifaaDoor
open Go
set_option maxRecDepth 100000
theorem seatTie1 : Tryd.prog.laidByTextLater [("math/bits.deBruijn64tab", Rows.laid_math_bits_deBruijn64tab), ("porism/value.words", Rows.laid_porism_value_words)] [.data, .widerDeep] true :=
  Program.laidByTextLater_by_one 19 8 65 (by kernel_rfl) (by kernel_rfl) (by kernel_rfl) (by kernel_rfl) (by kernel_rfl) (by kernel_rfl) (fun _ _ => by kernel_rfl)
theorem noOwnUnsafe : Tryd.pinned.checked.prog.headLifts.contains "ownunsafe" = false := by kernel_rfl
theorem tie : Tryd.prog.laidByTextLater [("math/bits.deBruijn64tab", Rows.laid_math_bits_deBruijn64tab), ("porism/value.words", Rows.laid_porism_value_words)] [.data, .widerDeep] true :=
  Program.laidByTextLater.sub seatTie1 ["math/bits.deBruijn64tab", "porism/value.words"] (by kernel_rfl) (by kernel_rfl)
theorem relationMatchesReference_row_tie : Rows.relationMatchesReferenceRow.laidByTextAt .later Tryd.pinned [.data, .widerDeep] true :=
  OpenClaim.laidByTextAt_later rfl rfl tie noOwnUnsafe
theorem relationSelectMatchesReference_row_tie : Rows.relationSelectMatchesReferenceRow.laidByTextAt .later Tryd.pinned [.data, .widerDeep] true :=
  OpenClaim.laidByTextAt_later rfl rfl tie noOwnUnsafe
theorem relationPoints_row_tie : Rows.relationPointsRow.laidByTextAt .later Tryd.pinned [.data, .widerDeep] true :=
  OpenClaim.laidByTextAt_later rfl rfl tie noOwnUnsafe
theorem relationCanonical_row_tie : Rows.relationCanonicalRow.laidByTextAt .later Tryd.pinned [.data, .widerDeep] true :=
  OpenClaim.laidByTextAt_later rfl rfl tie noOwnUnsafe
theorem relationMoments_row_tie : Rows.relationMomentsRow.laidByTextAt .later Tryd.pinned [.data, .widerDeep] true :=
  OpenClaim.laidByTextAt_later rfl rfl tie noOwnUnsafe
theorem relationParts_row_tie : Rows.relationPartsRow.laidByTextAt .later Tryd.pinned [.data, .widerDeep] true :=
  OpenClaim.laidByTextAt_later rfl rfl tie noOwnUnsafe
theorem relationOne_row_tie : Rows.relationOneRow.laidByTextAt .later Tryd.pinned [.data, .widerDeep] true :=
  OpenClaim.laidByTextAt_later rfl rfl tie noOwnUnsafe
theorem relationSelection_row_tie : Rows.relationSelectionRow.laidByTextAt .later Tryd.pinned [.data, .widerDeep] true :=
  OpenClaim.laidByTextAt_later rfl rfl tie noOwnUnsafe
theorem tie2 : Tryd.prog.laidByTextLater [("math/bits.deBruijn64tab", Rows.laid_math_bits_deBruijn64tab)] [.data] true :=
  Program.laidByTextLater.sub seatTie1 ["math/bits.deBruijn64tab"] (by kernel_rfl) (by kernel_rfl)
theorem trieMatchesReference_row_tie : Rows.trieMatchesReferenceRow.laidByTextAt .later Tryd.pinned [.data] true :=
  OpenClaim.laidByTextAt_later rfl rfl tie2 noOwnUnsafe
theorem trieInverse_row_tie : Rows.trieInverseRow.laidByTextAt .later Tryd.pinned [.data] true :=
  OpenClaim.laidByTextAt_later rfl rfl tie2 noOwnUnsafe
theorem trieSeeks_row_tie : Rows.trieSeeksRow.laidByTextAt .later Tryd.pinned [.data] true :=
  OpenClaim.laidByTextAt_later rfl rfl tie2 noOwnUnsafe
theorem trieCommon_row_tie : Rows.trieCommonRow.laidByTextAt .later Tryd.pinned [.data] true :=
  OpenClaim.laidByTextAt_later rfl rfl tie2 noOwnUnsafe
theorem trieCanonical_row_tie : Rows.trieCanonicalRow.laidByTextAt .later Tryd.pinned [.data] true :=
  OpenClaim.laidByTextAt_later rfl rfl tie2 noOwnUnsafe
theorem triePrefixes_row_tie : Rows.triePrefixesRow.laidByTextAt .later Tryd.pinned [.data] true :=
  OpenClaim.laidByTextAt_later rfl rfl tie2 noOwnUnsafe
theorem relationMatchesReferenceUpto_row_tie : Rows.relationMatchesReferenceUptoRow.laidByTextAt .later Tryd.pinned [.data, .widerDeep] true :=
  OpenClaim.laidByTextAt_later rfl rfl tie noOwnUnsafe
theorem relationSelectMatchesReferenceUpto_row_tie : Rows.relationSelectMatchesReferenceUptoRow.laidByTextAt .later Tryd.pinned [.data, .widerDeep] true :=
  OpenClaim.laidByTextAt_later rfl rfl tie noOwnUnsafe
theorem relationPointsUpto_row_tie : Rows.relationPointsUptoRow.laidByTextAt .later Tryd.pinned [.data, .widerDeep] true :=
  OpenClaim.laidByTextAt_later rfl rfl tie noOwnUnsafe
theorem relationCanonicalUpto_row_tie : Rows.relationCanonicalUptoRow.laidByTextAt .later Tryd.pinned [.data, .widerDeep] true :=
  OpenClaim.laidByTextAt_later rfl rfl tie noOwnUnsafe
theorem relationMomentsUpto_row_tie : Rows.relationMomentsUptoRow.laidByTextAt .later Tryd.pinned [.data, .widerDeep] true :=
  OpenClaim.laidByTextAt_later rfl rfl tie noOwnUnsafe
theorem relationPartsUpto_row_tie : Rows.relationPartsUptoRow.laidByTextAt .later Tryd.pinned [.data, .widerDeep] true :=
  OpenClaim.laidByTextAt_later rfl rfl tie noOwnUnsafe
theorem relationOneUpto_row_tie : Rows.relationOneUptoRow.laidByTextAt .later Tryd.pinned [.data, .widerDeep] true :=
  OpenClaim.laidByTextAt_later rfl rfl tie noOwnUnsafe
theorem relationSelectionUpto_row_tie : Rows.relationSelectionUptoRow.laidByTextAt .later Tryd.pinned [.data, .widerDeep] true :=
  OpenClaim.laidByTextAt_later rfl rfl tie noOwnUnsafe
theorem trieMatchesReferenceUpto_row_tie : Rows.trieMatchesReferenceUptoRow.laidByTextAt .later Tryd.pinned [.data] true :=
  OpenClaim.laidByTextAt_later rfl rfl tie2 noOwnUnsafe
theorem trieInverseUpto_row_tie : Rows.trieInverseUptoRow.laidByTextAt .later Tryd.pinned [.data] true :=
  OpenClaim.laidByTextAt_later rfl rfl tie2 noOwnUnsafe
theorem trieSeeksUpto_row_tie : Rows.trieSeeksUptoRow.laidByTextAt .later Tryd.pinned [.data] true :=
  OpenClaim.laidByTextAt_later rfl rfl tie2 noOwnUnsafe
theorem trieCommonUpto_row_tie : Rows.trieCommonUptoRow.laidByTextAt .later Tryd.pinned [.data] true :=
  OpenClaim.laidByTextAt_later rfl rfl tie2 noOwnUnsafe
theorem trieCanonicalUpto_row_tie : Rows.trieCanonicalUptoRow.laidByTextAt .later Tryd.pinned [.data] true :=
  OpenClaim.laidByTextAt_later rfl rfl tie2 noOwnUnsafe
theorem triePrefixesUpto_row_tie : Rows.triePrefixesUptoRow.laidByTextAt .later Tryd.pinned [.data] true :=
  OpenClaim.laidByTextAt_later rfl rfl tie2 noOwnUnsafe
end Go.Proofs.YtdibijhaiaiifaaDoor
