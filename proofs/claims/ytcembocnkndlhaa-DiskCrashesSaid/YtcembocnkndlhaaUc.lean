/- The contracts taken apart, boxes. -/
import Derived.Test.YtcembocnkndlhaaUb
import Derived.Test.YtcembocnkndlhaaWj
namespace Go.Proofs.Ytcembocnkndlhaa
open Go.RowKit
/-- A disk's value by its parts. -/
def diskV (pa : Option Addr) (pn pc : Nat) (wa : Option Addr) (wn wc : Nat) (dn : Bool) : Value := .agg #[.slice pa pn pc, .slice wa wn wc, .bool dn]
theorem DiskErr.to {d' : Dk} {r : Int} {res : Dk × Int} {w w' : World} {e : Ending} (h : DiskErr res w e w') (hr : Hid (res = (d', r))) : ∃ pa pc wa wc, e = .returned (.tuple #[.agg #[.slice pa d'.pages.length pc, .slice wa d'.writes.length wc, .bool d'.down], .int .i64 r]) ∧ IsDisk w' (.agg #[.slice pa d'.pages.length pc, .slice wa d'.writes.length wc, .bool d'.down]) d' ∧ Below w.heap.size w w' := by
  obtain ⟨v, rfl, hD, hB⟩ := h
  rw [hr.out] at hD ⊢
  dsimp only at hD ⊢
  obtain ⟨pa, pc, wa, wc, rfl, _⟩ := hD.shape
  exact ⟨pa, pc, wa, wc, rfl, hD, hB⟩
theorem DiskRet.to {d d' : Dk} {w w' : World} {e : Ending} (h : DiskRet d w e w') (hr : Hid (d = d')) : ∃ pa pc wa wc, e = .returned (.agg #[.slice pa d'.pages.length pc, .slice wa d'.writes.length wc, .bool d'.down]) ∧ IsDisk w' (.agg #[.slice pa d'.pages.length pc, .slice wa d'.writes.length wc, .bool d'.down]) d' ∧ Below w.heap.size w w' := by
  obtain ⟨v, rfl, hD, hB⟩ := h
  rw [hr.out] at hD
  obtain ⟨pa, pc, wa, wc, rfl, _⟩ := hD.shape
  exact ⟨pa, pc, wa, wc, rfl, hD, hB⟩
theorem BytesErr.to {l : List UInt8} {r : Int} {res : List UInt8 × Int} {w w' : World} {e : Ending} (h : BytesErr res w e w') (hr : Hid (res = (l, r))) : ∃ a c, e = .returned (.tuple #[.slice a l.length c, .int .i64 r]) ∧ IsBytes w' (.slice a l.length c) l ∧ Below w.heap.size w w' := by
  obtain ⟨v, rfl, hD, hB⟩ := h
  rw [hr.out] at hD ⊢
  dsimp only at hD ⊢
  obtain ⟨a, c, rfl, _⟩ := id hD
  exact ⟨a, c, rfl, hD, hB⟩
/-- A box that the call makes and fills. -/
theorem box_put (w : World) (a b c x y z : Value) (t : TypeId) : ((((w.alloc (.cells #[a, b, c] t)).setCell ⟨w.heap.size, 0, none⟩ x).setCell ⟨w.heap.size, 1, none⟩ y).setCell ⟨w.heap.size, 2, none⟩ z).heap[w.heap.size]? = some (.cells #[x, y, z] t (0, 0))
    ∧ Below w.heap.size w ((((w.alloc (.cells #[a, b, c] t)).setCell ⟨w.heap.size, 0, none⟩ x).setCell ⟨w.heap.size, 1, none⟩ y).setCell ⟨w.heap.size, 2, none⟩ z) :=
  ⟨Box3.set (heap_alloc_new w _), (((below_new w _).setCell (p := ⟨w.heap.size, 0, none⟩) (by simp) x).setCell (p := ⟨w.heap.size, 1, none⟩) (by simp) y).setCell (p := ⟨w.heap.size, 2, none⟩) (by simp) z⟩
theorem lit_bytes (w : World) (l : List UInt8) (hl : l.length ≤ 9223372036854775807) : IsBytes (w.alloc (.cells (bytesV l).toArray 5)) (.slice (some ⟨w.heap.size, 0, none⟩) l.length l.length) l := by
  refine ⟨_, _, rfl, .inr ⟨w.heap.size, 0, rfl, fun i x hi j u hj => ?_⟩, hl, Nat.le_refl _, hl⟩
  have hj0 : j = 0 := by have := (List.getElem?_eq_some_iff.1 hj).1; simp [encB] at this; exact this
  subst hj0
  refine cell_at (heap_alloc_new w _) ?_
  have : [u] = encB x := by simp [encB] at hj ⊢; exact hj.symm
  simp [encB] at this
  simp [bytesV, hi, this]
end Go.Proofs.Ytcembocnkndlhaa
