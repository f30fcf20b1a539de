/-
  NARROWER THAN 'FOR EVERY INPUT', by the rows' own cells (each row's printed sentence says how): LatticeMatchesReference: laid · LatticeOrder: laid · LatticeJoins: laid · LatticeLists: laid · LatticeIrreducible: laid · LatticeFunctions: laid · LatticeNames: laid.
  DERIVED. THE GIVEN ROWS OF THIS SEAT. 7 by the template 'for every input the law returns true; each argument reads behind the call as it read before'; 0 by the template 'total and deterministic' (their statements: YtkjlflmcojmfgaaDoorTotals.lean).
  GIVEN WITH THE SEED: the statements are not yours to turn. If you find one false, say at which input.
  Laid BY PROGRAM, IN A SANDBOX (cutbox-rows.mjs): the forced cells as the released guide's own fill.sh prints them over the translation 3d32d85e09c402d1… (all of the seat's roots in one cut). By AI agents, Wed Nov 11 2026. No macro, syntax, notation, axiom, sorry.
-/
import Derived.Test.YtkjlflmcojmfgaaDoorChecked
import GoSem.Claim
import GoSem.ClaimJoined
import GoSem.ClaimMapViews
import Derived.JoinedTies
import Derived.KernelRfl
namespace Go.Proofs.YtkjlflmcojmfgaaDoor
/- THE CELL 'sum', in the pinned program and in every row, IS THE sha256 OF THE DUMP (.gsa) THAT YtkjlflmcojmfgaaDoorProg.lean LOADS. Nothing in Lean hashes anything: it is a label: what it is worth is what the hold of that sum in a sandbox is worth. -/
noncomputable def Tryd.pinned : Pinned := { name := "ytkjlflmcojmfgaadoor", sum := "3d32d85e09c402d19b4ab05e6e402bfce4b97f6d30a45bb866f4946420fbf6c8", checked := Tryd.checked }
namespace Rows
def none {H : Type} : Left H := { results := [], args := [] }

/- WHAT THE LISTED PACKAGE-LEVEL VARIABLES READ AS WHEN THE CALL BEGINS. Each datum BY PROGRAM (the guide's laid-datum.mjs) off the statement by which the dump's own 'gosem.cut.vars' lays the variable. In a bare row this is a premise. The card (YtkjlflmcojmfgaaDoorCards.lean) ties it to the program's text. -/
def laid_porism_lattice_keys {H : Type} : DataW H := .slice [.lit (.string [108, 97, 116, 116, 105, 99, 101]), .lit (.string [102, 117, 110, 99, 116, 105, 111, 110]), .lit (.string [111, 110]), .lit (.string [98, 97, 115, 101]), .lit (.string [118, 105, 101, 119]), .lit (.string [107, 101, 121]), .lit (.string [100, 101, 110, 121]), .lit (.string [110, 111, 116]), .lit (.string [105, 110, 116]), .lit (.string [115, 121, 109])] []
def laid_porism_porismref03_Keys {H : Type} : DataW H := .slice [.lit (.string [108, 97, 116, 116, 105, 99, 101]), .lit (.string [102, 117, 110, 99, 116, 105, 111, 110]), .lit (.string [111, 110]), .lit (.string [98, 97, 115, 101]), .lit (.string [118, 105, 101, 119]), .lit (.string [107, 101, 121]), .lit (.string [100, 101, 110, 121]), .lit (.string [110, 111, 116]), .lit (.string [105, 110, 116]), .lit (.string [115, 121, 109])] []

/-- 'porismlaw03.LatticeMatchesReference': WHATEVER THE INPUT: true; the input reads as it did. -/
def latticeMatchesReferenceSpec : ChangeSpec := { name := "latticeMatchesReference", fn := fun _ => fun
  | [d1, d2, d3, d4] => { results := [.lit (.bool true)], args := [d1, d2, d3, d4] }
  | _ => none }
def latticeMatchesReferenceRow : OpenClaim := { program := "ytkjlflmcojmfgaadoor", sum := "3d32d85e09c402d19b4ab05e6e402bfce4b97f6d30a45bb866f4946420fbf6c8", func := "porism/porismlaw03.LatticeMatchesReference", spec := "latticeMatchesReference", named := ["porism/lattice.keys", "porism/porismref03.Keys"], apart := false, laid := [("porism/lattice.keys", laid_porism_lattice_keys), ("porism/porismref03.Keys", laid_porism_porismref03_Keys)] }
def LatticeMatchesReferenceSaid : Prop := latticeMatchesReferenceRow.holds Tryd.pinned (OpenSpec.ofChange latticeMatchesReferenceSpec)

/-- ITS FALSE NEIGHBOUR: 'it returns false'. Refute it at one input. -/
def latticeMatchesReferenceWrong : ChangeSpec := { name := "latticeMatchesReference", fn := fun _ => fun
  | [d1, d2, d3, d4] => { results := [.lit (.bool false)], args := [d1, d2, d3, d4] }
  | _ => none }
def LatticeMatchesReferenceWrongFalsely : Prop := latticeMatchesReferenceRow.holds Tryd.pinned (OpenSpec.ofChange latticeMatchesReferenceWrong)

/-- 'porismlaw03.LatticeOrder': WHATEVER THE INPUT: true; the input reads as it did. -/
def latticeOrderSpec : ChangeSpec := { name := "latticeOrder", fn := fun _ => fun
  | [d] => { results := [.lit (.bool true)], args := [d] }
  | _ => none }
def latticeOrderRow : OpenClaim := { program := "ytkjlflmcojmfgaadoor", sum := "3d32d85e09c402d19b4ab05e6e402bfce4b97f6d30a45bb866f4946420fbf6c8", func := "porism/porismlaw03.LatticeOrder", spec := "latticeOrder", named := ["porism/lattice.keys"], apart := false, laid := [("porism/lattice.keys", laid_porism_lattice_keys)] }
def LatticeOrderSaid : Prop := latticeOrderRow.holds Tryd.pinned (OpenSpec.ofChange latticeOrderSpec)

/-- ITS FALSE NEIGHBOUR: 'it returns false'. Refute it at one input. -/
def latticeOrderWrong : ChangeSpec := { name := "latticeOrder", fn := fun _ => fun
  | [d] => { results := [.lit (.bool false)], args := [d] }
  | _ => none }
def LatticeOrderWrongFalsely : Prop := latticeOrderRow.holds Tryd.pinned (OpenSpec.ofChange latticeOrderWrong)

/-- 'porismlaw03.LatticeJoins': WHATEVER THE INPUT: true; the input reads as it did. -/
def latticeJoinsSpec : ChangeSpec := { name := "latticeJoins", fn := fun _ => fun
  | [d] => { results := [.lit (.bool true)], args := [d] }
  | _ => none }
def latticeJoinsRow : OpenClaim := { program := "ytkjlflmcojmfgaadoor", sum := "3d32d85e09c402d19b4ab05e6e402bfce4b97f6d30a45bb866f4946420fbf6c8", func := "porism/porismlaw03.LatticeJoins", spec := "latticeJoins", named := ["porism/lattice.keys"], apart := false, laid := [("porism/lattice.keys", laid_porism_lattice_keys)] }
def LatticeJoinsSaid : Prop := latticeJoinsRow.holds Tryd.pinned (OpenSpec.ofChange latticeJoinsSpec)

/-- ITS FALSE NEIGHBOUR: 'it returns false'. Refute it at one input. -/
def latticeJoinsWrong : ChangeSpec := { name := "latticeJoins", fn := fun _ => fun
  | [d] => { results := [.lit (.bool false)], args := [d] }
  | _ => none }
def LatticeJoinsWrongFalsely : Prop := latticeJoinsRow.holds Tryd.pinned (OpenSpec.ofChange latticeJoinsWrong)

/-- 'porismlaw03.LatticeLists': WHATEVER THE INPUT: true; the input reads as it did. -/
def latticeListsSpec : ChangeSpec := { name := "latticeLists", fn := fun _ => fun
  | [d1, d2] => { results := [.lit (.bool true)], args := [d1, d2] }
  | _ => none }
def latticeListsRow : OpenClaim := { program := "ytkjlflmcojmfgaadoor", sum := "3d32d85e09c402d19b4ab05e6e402bfce4b97f6d30a45bb866f4946420fbf6c8", func := "porism/porismlaw03.LatticeLists", spec := "latticeLists", named := ["porism/lattice.keys"], apart := false, laid := [("porism/lattice.keys", laid_porism_lattice_keys)] }
def LatticeListsSaid : Prop := latticeListsRow.holds Tryd.pinned (OpenSpec.ofChange latticeListsSpec)

/-- ITS FALSE NEIGHBOUR: 'it returns false'. Refute it at one input. -/
def latticeListsWrong : ChangeSpec := { name := "latticeLists", fn := fun _ => fun
  | [d1, d2] => { results := [.lit (.bool false)], args := [d1, d2] }
  | _ => none }
def LatticeListsWrongFalsely : Prop := latticeListsRow.holds Tryd.pinned (OpenSpec.ofChange latticeListsWrong)

/-- 'porismlaw03.LatticeIrreducible': WHATEVER THE INPUT: true; the input reads as it did. -/
def latticeIrreducibleSpec : ChangeSpec := { name := "latticeIrreducible", fn := fun _ => fun
  | [d] => { results := [.lit (.bool true)], args := [d] }
  | _ => none }
def latticeIrreducibleRow : OpenClaim := { program := "ytkjlflmcojmfgaadoor", sum := "3d32d85e09c402d19b4ab05e6e402bfce4b97f6d30a45bb866f4946420fbf6c8", func := "porism/porismlaw03.LatticeIrreducible", spec := "latticeIrreducible", named := ["porism/lattice.keys"], apart := false, laid := [("porism/lattice.keys", laid_porism_lattice_keys)] }
def LatticeIrreducibleSaid : Prop := latticeIrreducibleRow.holds Tryd.pinned (OpenSpec.ofChange latticeIrreducibleSpec)

/-- ITS FALSE NEIGHBOUR: 'it returns false'. Refute it at one input. -/
def latticeIrreducibleWrong : ChangeSpec := { name := "latticeIrreducible", fn := fun _ => fun
  | [d] => { results := [.lit (.bool false)], args := [d] }
  | _ => none }
def LatticeIrreducibleWrongFalsely : Prop := latticeIrreducibleRow.holds Tryd.pinned (OpenSpec.ofChange latticeIrreducibleWrong)

/-- 'porismlaw03.LatticeFunctions': WHATEVER THE INPUT: true; the input reads as it did. -/
def latticeFunctionsSpec : ChangeSpec := { name := "latticeFunctions", fn := fun _ => fun
  | [d1, d2, d3] => { results := [.lit (.bool true)], args := [d1, d2, d3] }
  | _ => none }
def latticeFunctionsRow : OpenClaim := { program := "ytkjlflmcojmfgaadoor", sum := "3d32d85e09c402d19b4ab05e6e402bfce4b97f6d30a45bb866f4946420fbf6c8", func := "porism/porismlaw03.LatticeFunctions", spec := "latticeFunctions", named := ["porism/lattice.keys"], apart := false, laid := [("porism/lattice.keys", laid_porism_lattice_keys)] }
def LatticeFunctionsSaid : Prop := latticeFunctionsRow.holds Tryd.pinned (OpenSpec.ofChange latticeFunctionsSpec)

/-- ITS FALSE NEIGHBOUR: 'it returns false'. Refute it at one input. -/
def latticeFunctionsWrong : ChangeSpec := { name := "latticeFunctions", fn := fun _ => fun
  | [d1, d2, d3] => { results := [.lit (.bool false)], args := [d1, d2, d3] }
  | _ => none }
def LatticeFunctionsWrongFalsely : Prop := latticeFunctionsRow.holds Tryd.pinned (OpenSpec.ofChange latticeFunctionsWrong)

/-- 'porismlaw03.LatticeNames': WHATEVER THE INPUT: true; the input reads as it did. -/
def latticeNamesSpec : ChangeSpec := { name := "latticeNames", fn := fun _ => fun
  | [d1, d2] => { results := [.lit (.bool true)], args := [d1, d2] }
  | _ => none }
def latticeNamesRow : OpenClaim := { program := "ytkjlflmcojmfgaadoor", sum := "3d32d85e09c402d19b4ab05e6e402bfce4b97f6d30a45bb866f4946420fbf6c8", func := "porism/porismlaw03.LatticeNames", spec := "latticeNames", named := ["porism/lattice.keys"], apart := false, laid := [("porism/lattice.keys", laid_porism_lattice_keys)] }
def LatticeNamesSaid : Prop := latticeNamesRow.holds Tryd.pinned (OpenSpec.ofChange latticeNamesSpec)

/-- ITS FALSE NEIGHBOUR: 'it returns false'. Refute it at one input. -/
def latticeNamesWrong : ChangeSpec := { name := "latticeNames", fn := fun _ => fun
  | [d1, d2] => { results := [.lit (.bool false)], args := [d1, d2] }
  | _ => none }
def LatticeNamesWrongFalsely : Prop := latticeNamesRow.holds Tryd.pinned (OpenSpec.ofChange latticeNamesWrong)

/- THE SECOND FORM. 'bulk': how many values and letters a reading holds, each counted each time it is reached (what is shared counts as often as it is met; a slice's spare places count too). A statement '..UptoSaid' is the law's where the arguments, and the package variables that the reading takes, are together of bulk at most 1048576: NARROWER than '..Said'. Prove '..Said' where nothing that the law and all that it calls make is longer than what came in: it says more and counts as full. Else prove '..UptoSaid'. A law counts once. -/
mutual
def uptoBulk {H : Type} : DataW H → Nat
  | .lit (.string bytes) => bytes.length + 1
  | .lit _ => 1
  | .nil => 1
  | .ptr d => uptoBulk d + 1
  | .slice elems spare => uptoBulkAll elems + uptoBulkAll spare + 1
  | .agg parts => uptoBulkAll parts + 1
  | .iface _ d => uptoBulk d + 1
  | .map entries => uptoBulkEntries entries + 1
  | .held _ => 1
def uptoBulkAll {H : Type} : List (DataW H) → Nat
  | [] => 0
  | d :: r => uptoBulk d + uptoBulkAll r
def uptoBulkEntries {H : Type} : List (Lit × DataW H) → Nat
  | [] => 0
  | x :: r => uptoBulkEntry x + uptoBulkEntries r
def uptoBulkEntry {H : Type} : Lit × DataW H → Nat
  | (.string bytes, d) => bytes.length + uptoBulk d + 1
  | (_, d) => uptoBulk d + 1
 end
def uptoSmall : (H : Type) → List (DataW H) → Bool := fun _ ds => decide (uptoBulkAll ds ≤ 1048576)
def OpenSpec.upto (s : _root_.Go.ChangeSpec) : _root_.Go.OpenSpec := { _root_.Go.OpenSpec.ofChange s with cond := some uptoSmall }

/-- 'porismlaw03.LatticeMatchesReference', WHERE WHAT IT READS IS OF BULK AT MOST 1048576: true; the input reads as it did. -/
def latticeMatchesReferenceUptoRow : OpenClaim := { program := "ytkjlflmcojmfgaadoor", sum := "3d32d85e09c402d19b4ab05e6e402bfce4b97f6d30a45bb866f4946420fbf6c8", func := "porism/porismlaw03.LatticeMatchesReference", spec := "latticeMatchesReference", named := ["porism/lattice.keys", "porism/porismref03.Keys"], apart := false, laid := [("porism/lattice.keys", laid_porism_lattice_keys), ("porism/porismref03.Keys", laid_porism_porismref03_Keys)], narrowed := true }
def LatticeMatchesReferenceUptoSaid : Prop := latticeMatchesReferenceUptoRow.holds Tryd.pinned (OpenSpec.upto latticeMatchesReferenceSpec)

/-- 'porismlaw03.LatticeOrder', WHERE WHAT IT READS IS OF BULK AT MOST 1048576: true; the input reads as it did. -/
def latticeOrderUptoRow : OpenClaim := { program := "ytkjlflmcojmfgaadoor", sum := "3d32d85e09c402d19b4ab05e6e402bfce4b97f6d30a45bb866f4946420fbf6c8", func := "porism/porismlaw03.LatticeOrder", spec := "latticeOrder", named := ["porism/lattice.keys"], apart := false, laid := [("porism/lattice.keys", laid_porism_lattice_keys)], narrowed := true }
def LatticeOrderUptoSaid : Prop := latticeOrderUptoRow.holds Tryd.pinned (OpenSpec.upto latticeOrderSpec)

/-- 'porismlaw03.LatticeJoins', WHERE WHAT IT READS IS OF BULK AT MOST 1048576: true; the input reads as it did. -/
def latticeJoinsUptoRow : OpenClaim := { program := "ytkjlflmcojmfgaadoor", sum := "3d32d85e09c402d19b4ab05e6e402bfce4b97f6d30a45bb866f4946420fbf6c8", func := "porism/porismlaw03.LatticeJoins", spec := "latticeJoins", named := ["porism/lattice.keys"], apart := false, laid := [("porism/lattice.keys", laid_porism_lattice_keys)], narrowed := true }
def LatticeJoinsUptoSaid : Prop := latticeJoinsUptoRow.holds Tryd.pinned (OpenSpec.upto latticeJoinsSpec)

/-- 'porismlaw03.LatticeLists', WHERE WHAT IT READS IS OF BULK AT MOST 1048576: true; the input reads as it did. -/
def latticeListsUptoRow : OpenClaim := { program := "ytkjlflmcojmfgaadoor", sum := "3d32d85e09c402d19b4ab05e6e402bfce4b97f6d30a45bb866f4946420fbf6c8", func := "porism/porismlaw03.LatticeLists", spec := "latticeLists", named := ["porism/lattice.keys"], apart := false, laid := [("porism/lattice.keys", laid_porism_lattice_keys)], narrowed := true }
def LatticeListsUptoSaid : Prop := latticeListsUptoRow.holds Tryd.pinned (OpenSpec.upto latticeListsSpec)

/-- 'porismlaw03.LatticeIrreducible', WHERE WHAT IT READS IS OF BULK AT MOST 1048576: true; the input reads as it did. -/
def latticeIrreducibleUptoRow : OpenClaim := { program := "ytkjlflmcojmfgaadoor", sum := "3d32d85e09c402d19b4ab05e6e402bfce4b97f6d30a45bb866f4946420fbf6c8", func := "porism/porismlaw03.LatticeIrreducible", spec := "latticeIrreducible", named := ["porism/lattice.keys"], apart := false, laid := [("porism/lattice.keys", laid_porism_lattice_keys)], narrowed := true }
def LatticeIrreducibleUptoSaid : Prop := latticeIrreducibleUptoRow.holds Tryd.pinned (OpenSpec.upto latticeIrreducibleSpec)

/-- 'porismlaw03.LatticeFunctions', WHERE WHAT IT READS IS OF BULK AT MOST 1048576: true; the input reads as it did. -/
def latticeFunctionsUptoRow : OpenClaim := { program := "ytkjlflmcojmfgaadoor", sum := "3d32d85e09c402d19b4ab05e6e402bfce4b97f6d30a45bb866f4946420fbf6c8", func := "porism/porismlaw03.LatticeFunctions", spec := "latticeFunctions", named := ["porism/lattice.keys"], apart := false, laid := [("porism/lattice.keys", laid_porism_lattice_keys)], narrowed := true }
def LatticeFunctionsUptoSaid : Prop := latticeFunctionsUptoRow.holds Tryd.pinned (OpenSpec.upto latticeFunctionsSpec)

/-- 'porismlaw03.LatticeNames', WHERE WHAT IT READS IS OF BULK AT MOST 1048576: true; the input reads as it did. -/
def latticeNamesUptoRow : OpenClaim := { program := "ytkjlflmcojmfgaadoor", sum := "3d32d85e09c402d19b4ab05e6e402bfce4b97f6d30a45bb866f4946420fbf6c8", func := "porism/porismlaw03.LatticeNames", spec := "latticeNames", named := ["porism/lattice.keys"], apart := false, laid := [("porism/lattice.keys", laid_porism_lattice_keys)], narrowed := true }
def LatticeNamesUptoSaid : Prop := latticeNamesUptoRow.holds Tryd.pinned (OpenSpec.upto latticeNamesSpec)

end Rows
end Go.Proofs.YtkjlflmcojmfgaaDoor
