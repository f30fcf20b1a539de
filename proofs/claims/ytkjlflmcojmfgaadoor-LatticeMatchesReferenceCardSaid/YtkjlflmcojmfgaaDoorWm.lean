/- Literal lattices; the walk of diamond. -/
import Derived.Test.YtkjlflmcojmfgaaDoorWl
namespace Go.Proofs.YtkjlflmcojmfgaaDoor
open Go.RowKit
theorem flat_names (l : List Nm) : l.flatMap encS = l.map fun x => Value.string x.1 := by
  induction l with
  | nil => rfl
  | cons x r ih => rw [List.flatMap_cons, ih]; rfl
theorem rows_lit {α : Type} {k : Nat} {enc : α → List Value} {w : World} {g : Nat} {l : List α} {t : TypeId} (hg : w.heap[g]? = some (.cells (l.flatMap enc).toArray t (0, 0))) (hk : ∀ x ∈ l, (enc x).length = k) (hl : l.length ≤ 1000) : IsRows k enc w (.slice (some ⟨g, 0, none⟩) l.length l.length) l := by
  refine ⟨some ⟨g, 0, none⟩, l.length, rfl, .inr ⟨g, 0, rfl, fun i x hi j u hj => ?_⟩, by omega, Nat.le_refl _, by omega⟩
  rw [cell_of_row _ g _ _ t (0, 0) hg, Nat.zero_add]
  simpa using flat_get l hk i x hi j u hj
theorem lat_two {w : World} {nm : Nm} {ns : List Nm} {cs : List (Int × Int)} {at_ : Int} (A B : Obj) (hA : A = .cells (ns.flatMap encS).toArray 9) (hB : B = .cells (cs.flatMap encC).toArray 39) (h1 : ns.length ≤ 1000) (h2 : cs.length ≤ 1000) :
    IsLtc ((w.alloc A).alloc B) (.agg #[.string nm.1, .slice (some ⟨w.heap.size, 0, none⟩) ns.length ns.length, .slice (some ⟨w.heap.size + 1, 0, none⟩) cs.length cs.length, .int .i64 at_]) ⟨nm, ns, cs, at_⟩ := by
  subst hA hB
  refine ⟨_, _, rfl, rows_lit (t := 9) (block_keep (heap_alloc_new w _) (below_new _ _)) (fun _ _ => rfl) h1, rows_lit (t := 39) ?_ (fun _ _ => rfl) h2⟩
  have := heap_alloc_new (w.alloc (.cells (ns.flatMap encS).toArray 9)) (.cells (cs.flatMap encC).toArray 39)
  rwa [show (w.alloc (.cells (ns.flatMap encS).toArray 9)).heap.size = w.heap.size + 1 from by simp] at this
theorem lat_one {w : World} {nm : Nm} {ns : List Nm} {at_ : Int} (A : Obj) (hA : A = .cells (ns.flatMap encS).toArray 9) (h1 : ns.length ≤ 1000) :
    IsLtc (w.alloc A) (.agg #[.string nm.1, .slice (some ⟨w.heap.size, 0, none⟩) ns.length ns.length, .slice none 0 0, .int .i64 at_]) ⟨nm, ns, [], at_⟩ := by
  subst hA
  exact ⟨_, _, rfl, rows_lit (t := 9) (heap_alloc_new w _) (fun _ _ => rfl) h1, IsCovers.nil _⟩
def nA : Nm := mkNm [97] (by decide)
def nB : Nm := mkNm [98] (by decide)
def nO : Nm := mkNm [111] (by decide)
def nT : Nm := mkNm [116] (by decide)
def diaL : Ltc := ⟨mkNm [100] (by decide), [nO, nA, nB, nT], [(0, 1), (0, 2), (1, 3), (2, 3)], 0⟩
def openL : Ltc := ⟨mkNm [118] (by decide), [nO, nA, nB], [(0, 1), (0, 2)], 0⟩
def loopL : Ltc := ⟨mkNm [99] (by decide), [nA, nB], [(0, 1), (1, 0)], 0⟩
def sameL : Ltc := ⟨mkNm [99] (by decide), [nA, nA], [], 0⟩
def keyL : Ltc := ⟨mkNm [118, 105, 101, 119] (by decide), [nA], [], 0⟩
set_option maxHeartbeats 2000000 in
set_option maxRecDepth 100000 in
theorem dia_any (w : World) : Calls Tryd.prog 29 #[] w fun e w' => ∃ ea ca, e = .returned (.agg #[.string ⟨#[100]⟩, .slice ea 4 4, .slice ca 4 4, .int .i64 0]) ∧ IsLtc w' (.agg #[.string ⟨#[100]⟩, .slice ea 4 4, .slice ca 4 4, .int .i64 0]) diaL ∧ Below w.heap.size w w' := by
  go_enter Tryd.func29, Tryd.ntmps29
  go_wp2
  have key := lat_two (w := w.alloc (.cells #[.string ⟨#[100]⟩, .slice (some ⟨w.heap.size + 1, 0, none⟩) 4 4, .slice (some ⟨w.heap.size + 1 + 1, 0, none⟩) 4 4, .int .i64 0] 25)) (nm := diaL.name) (ns := diaL.elems) (cs := diaL.covers) (at_ := 0) _ _ rfl rfl (by decide) (by decide)
  rw [show (w.alloc (.cells #[.string ⟨#[100]⟩, .slice (some ⟨w.heap.size + 1, 0, none⟩) 4 4, .slice (some ⟨w.heap.size + 1 + 1, 0, none⟩) 4 4, .int .i64 0] 25)).heap.size = w.heap.size + 1 from by simp] at key
  refine bodyPost_ret (v := .agg #[.string ⟨#[100]⟩, .slice (some ⟨w.heap.size + 1, 0, none⟩) 4 4, .slice (some ⟨w.heap.size + 1 + 1, 0, none⟩) 4 4, .int .i64 0]) (by simp [results, Tryd.results29, go_sem]) rfl ?_
  exact ⟨_, _, rfl, key, below_alloc' (below_alloc' (below_new w _))⟩
theorem head_facts : Hid (checkL diaL = 0) ∧ Hid (lubL diaL [1, 2] = 3) ∧ Hid (lubL diaL [0, 2] = 2) ∧ Hid (lubL diaL [] = 0) ∧ Hid (leqL diaL 0 3 = true) ∧ Hid (leqL diaL 1 2 = false) ∧ Hid (lubL diaL [2, 0, 1] = 3) ∧ Hid (lubL diaL [4] = -1) ∧ Hid (irrL diaL = [1, 2]) ∧ Hid (monoL diaL [0, 1, 1, 3] = true) ∧ Hid (monoL diaL [1, 0, 1, 1] = false) ∧ Hid (checkL openL = 30) ∧ Hid (checkL loopL = 30) ∧ Hid (checkL sameL = 5) ∧ Hid (checkL keyL = 1) :=
  ⟨Lib.hid (by decide +kernel), Lib.hid (by decide +kernel), Lib.hid (by decide +kernel), Lib.hid (by decide +kernel), Lib.hid (by decide +kernel), Lib.hid (by decide +kernel), Lib.hid (by decide +kernel), Lib.hid (by decide +kernel), Lib.hid (by decide +kernel), Lib.hid (by decide +kernel), Lib.hid (by decide +kernel), Lib.hid (by decide +kernel), Lib.hid (by decide +kernel), Lib.hid (by decide +kernel), Lib.hid (by decide +kernel)⟩
end Go.Proofs.YtkjlflmcojmfgaaDoor
