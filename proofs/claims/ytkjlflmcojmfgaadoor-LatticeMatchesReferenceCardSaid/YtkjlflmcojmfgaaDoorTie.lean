/-
  DERIVED. GIVEN WITH THE SEED: THE PROGRAM's TIES (one call each: nine closed facts by the kernel) AND EACH ROW's TIE, after the 31st guide's Derived/Test/Toyas{Tie, Card}.lean. No idea stands in it: it is a product of the set-up. Laid BY PROGRAM, IN A SANDBOX (cutbox-door.mjs). By AI agents, Wed Nov 11 2026. No macro, syntax, notation, axiom, sorry.
-/
import Derived.Test.YtkjlflmcojmfgaaDoorRows
import Derived.LaidByTextLater
import Derived.SevenTiedAt
import Derived.LaidSub
import Derived.LaidOnce
namespace Go.Proofs.YtkjlflmcojmfgaaDoor
open Go
set_option maxRecDepth 100000
theorem seatTie1 : Tryd.prog.laidByTextLater [("porism/lattice.keys", Rows.laid_porism_lattice_keys), ("porism/porismref03.Keys", Rows.laid_porism_porismref03_Keys)] [.widerDeep, .data] true :=
  Program.laidByTextLater_by_one 19 8 11 (by kernel_rfl) (by kernel_rfl) (by kernel_rfl) (by kernel_rfl) (by kernel_rfl) (by kernel_rfl) (fun _ _ => by kernel_rfl)
theorem noOwnUnsafe : Tryd.pinned.checked.prog.headLifts.contains "ownunsafe" = false := by kernel_rfl
theorem tie : Tryd.prog.laidByTextLater [("porism/lattice.keys", Rows.laid_porism_lattice_keys), ("porism/porismref03.Keys", Rows.laid_porism_porismref03_Keys)] [.widerDeep, .data] true :=
  Program.laidByTextLater.sub seatTie1 ["porism/lattice.keys", "porism/porismref03.Keys"] (by kernel_rfl) (by kernel_rfl)
theorem latticeMatchesReference_row_tie : Rows.latticeMatchesReferenceRow.laidByTextAt .later Tryd.pinned [.widerDeep, .data] true :=
  OpenClaim.laidByTextAt_later rfl rfl tie noOwnUnsafe
theorem tie2 : Tryd.prog.laidByTextLater [("porism/lattice.keys", Rows.laid_porism_lattice_keys)] [.widerDeep] true :=
  Program.laidByTextLater.sub seatTie1 ["porism/lattice.keys"] (by kernel_rfl) (by kernel_rfl)
theorem latticeOrder_row_tie : Rows.latticeOrderRow.laidByTextAt .later Tryd.pinned [.widerDeep] true :=
  OpenClaim.laidByTextAt_later rfl rfl tie2 noOwnUnsafe
theorem latticeJoins_row_tie : Rows.latticeJoinsRow.laidByTextAt .later Tryd.pinned [.widerDeep] true :=
  OpenClaim.laidByTextAt_later rfl rfl tie2 noOwnUnsafe
theorem latticeLists_row_tie : Rows.latticeListsRow.laidByTextAt .later Tryd.pinned [.widerDeep] true :=
  OpenClaim.laidByTextAt_later rfl rfl tie2 noOwnUnsafe
theorem latticeIrreducible_row_tie : Rows.latticeIrreducibleRow.laidByTextAt .later Tryd.pinned [.widerDeep] true :=
  OpenClaim.laidByTextAt_later rfl rfl tie2 noOwnUnsafe
theorem latticeFunctions_row_tie : Rows.latticeFunctionsRow.laidByTextAt .later Tryd.pinned [.widerDeep] true :=
  OpenClaim.laidByTextAt_later rfl rfl tie2 noOwnUnsafe
theorem latticeNames_row_tie : Rows.latticeNamesRow.laidByTextAt .later Tryd.pinned [.widerDeep] true :=
  OpenClaim.laidByTextAt_later rfl rfl tie2 noOwnUnsafe
theorem latticeMatchesReferenceUpto_row_tie : Rows.latticeMatchesReferenceUptoRow.laidByTextAt .later Tryd.pinned [.widerDeep, .data] true :=
  OpenClaim.laidByTextAt_later rfl rfl tie noOwnUnsafe
theorem latticeOrderUpto_row_tie : Rows.latticeOrderUptoRow.laidByTextAt .later Tryd.pinned [.widerDeep] true :=
  OpenClaim.laidByTextAt_later rfl rfl tie2 noOwnUnsafe
theorem latticeJoinsUpto_row_tie : Rows.latticeJoinsUptoRow.laidByTextAt .later Tryd.pinned [.widerDeep] true :=
  OpenClaim.laidByTextAt_later rfl rfl tie2 noOwnUnsafe
theorem latticeListsUpto_row_tie : Rows.latticeListsUptoRow.laidByTextAt .later Tryd.pinned [.widerDeep] true :=
  OpenClaim.laidByTextAt_later rfl rfl tie2 noOwnUnsafe
theorem latticeIrreducibleUpto_row_tie : Rows.latticeIrreducibleUptoRow.laidByTextAt .later Tryd.pinned [.widerDeep] true :=
  OpenClaim.laidByTextAt_later rfl rfl tie2 noOwnUnsafe
theorem latticeFunctionsUpto_row_tie : Rows.latticeFunctionsUptoRow.laidByTextAt .later Tryd.pinned [.widerDeep] true :=
  OpenClaim.laidByTextAt_later rfl rfl tie2 noOwnUnsafe
theorem latticeNamesUpto_row_tie : Rows.latticeNamesUptoRow.laidByTextAt .later Tryd.pinned [.widerDeep] true :=
  OpenClaim.laidByTextAt_later rfl rfl tie2 noOwnUnsafe
end Go.Proofs.YtkjlflmcojmfgaaDoor
