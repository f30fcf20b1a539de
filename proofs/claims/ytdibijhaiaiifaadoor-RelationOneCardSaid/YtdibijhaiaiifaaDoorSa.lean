/- The sort's state: a block of rows that the call owns. -/
import Derived.Test.YtdibijhaiaiifaaDoorXd
import Derived.Sort.LotA
namespace Go.Proofs.YtdibijhaiaiifaaDoor
open Go.RowKit
open Go.Sort (swp)
instance : Inhabited RR := ⟨noRow⟩
/-- The block G, laid behind wb, holds the rows d. -/
structure St (wb : World) (G : Nat) (d : Array RR) (W : World) : Prop where
  below : Below wb.heap.size wb W
  ge : wb.heap.size ≤ G
  blk : ∃ cs : Array Value, W.heap[G]? = some (.cells cs 44 (0, 0)) ∧ 2 * d.size ≤ cs.size ∧ ∀ i, i < d.size → cs[i * 2]? = some (d[i]!).av ∧ cs[i * 2 + 1]? = some (d[i]!).wv
  ok : ∀ i, i < d.size → RowOk wb d[i]!
section
variable {wb W W' : World} {G : Nat} {d : Array RR}
theorem St.lt (h : St wb G d W) : G < W.heap.size := by obtain ⟨cs, h, _⟩ := h.blk; exact block_lt h
theorem St.keep (h : St wb G d W) (hb : Below W.heap.size W W') : St wb G d W' := by
  refine ⟨h.below.trans (hb.mono h.below.size), h.ge, ?_, h.ok⟩
  obtain ⟨cs, h1, h2⟩ := h.blk
  exact ⟨cs, block_keep h1 hb, h2⟩
theorem St.grew (h : St wb G d W) (g : Grew W W') : St wb G d W' := h.keep g.below
theorem St.cells (h : St wb G d W) {i : Nat} (hi : i < d.size) : W.cell? ⟨G, i * 2, none⟩ = some (d[i]!).av ∧ W.cell? ⟨G, i * 2 + 1, none⟩ = some (d[i]!).wv := by
  obtain ⟨cs, h1, _, h2⟩ := h.blk
  obtain ⟨c0, c1⟩ := h2 i hi
  exact ⟨cell_at h1 c0, cell_at h1 c1⟩
theorem St.free (h : St wb G d W) (j : Nat) : W.frozen? ⟨G, j, none⟩ = false := by
  obtain ⟨cs, h1, _⟩ := h.blk
  exact free_at h1
theorem St.row (h : St wb G d W) {i : Nat} (hi : i < d.size) : RowOk W d[i]! := (h.ok i hi).keep h.below
theorem swp_get (d : Array RR) (i j k : Nat) (hi : i < d.size) (hj : j < d.size) : (swp d i j)[k]! = if k = j then d[i]! else if k = i then d[j]! else d[k]! := by
  by_cases h1 : k = j
  · subst h1; rw [if_pos rfl, Go.Sort.swp_right d i k hj]
  · rw [if_neg h1]
    by_cases h2 : k = i
    · subst h2; rw [if_pos rfl, Go.Sort.swp_left d k j hi h1]
    · rw [if_neg h2, Go.Sort.swp_other d i j k h2 h1]
theorem St.swap (h : St wb G d W) {i j : Nat} (hi : i < d.size) (hj : j < d.size) :
    St wb G (swp d i j) ((((W.setCell ⟨G, i * 2, none⟩ (d[j]!).av).setCell ⟨G, i * 2 + 1, none⟩ (d[j]!).wv).setCell ⟨G, j * 2, none⟩ (d[i]!).av).setCell ⟨G, j * 2 + 1, none⟩ (d[i]!).wv) := by
  obtain ⟨cs, h1, hs, h2⟩ := h.blk
  have a1 := heap_setCell_same W G (i * 2) cs 44 (d[j]!).av h1
  have a2 := heap_setCell_same _ G (i * 2 + 1) _ 44 (d[j]!).wv a1
  have a3 := heap_setCell_same _ G (j * 2) _ 44 (d[i]!).av a2
  have a4 := heap_setCell_same _ G (j * 2 + 1) _ 44 (d[i]!).wv a3
  refine ⟨(((h.below.setCell h.ge _).setCell h.ge _).setCell h.ge _).setCell h.ge _, h.ge, ⟨_, a4, by simpa [Go.Sort.size_swp] using hs, fun k hk => ?_⟩, fun k hk => ?_⟩
  · rw [Go.Sort.size_swp] at hk
    rw [swp_get d i j k hi hj]
    obtain ⟨c0, c1⟩ := h2 k hk
    have s0 : k * 2 < cs.size := by omega
    have s1 : k * 2 + 1 < cs.size := by omega
    simp only [Array.getElem?_setIfInBounds, Array.size_setIfInBounds]
    by_cases e1 : k = j
    · subst e1
      have q : (if k = k then d[i]! else if k = i then d[k]! else d[k]!) = d[i]! := if_pos rfl
      rw [q]
      constructor
      · rw [if_neg (by omega), if_pos rfl, if_pos s0]
      · rw [if_pos rfl, if_pos s1]
    · rw [if_neg e1]
      by_cases e2 : k = i
      · subst e2
        have q : (if k = k then d[j]! else d[k]!) = d[j]! := if_pos rfl
        rw [q]
        constructor
        · rw [if_neg (by omega), if_neg (by omega), if_neg (by omega), if_pos rfl, if_pos s0]
        · rw [if_neg (by omega), if_neg (by omega), if_pos rfl, if_pos s1]
      · rw [if_neg e2]
        constructor
        · rw [if_neg (by omega), if_neg (by omega), if_neg (by omega), if_neg (by omega)]; exact c0
        · rw [if_neg (by omega), if_neg (by omega), if_neg (by omega), if_neg (by omega)]; exact c1
  · rw [Go.Sort.size_swp] at hk
    rw [swp_get d i j k hi hj]
    split
    · exact h.ok i hi
    · split
      · exact h.ok j hj
      · exact h.ok k hk
end
def ltR (x y : RR) : Bool := decide (cmpT x.t y.t < 0)
theorem swoR : Go.Sort.SWO ltR where
  irrefl := fun x => by unfold ltR; rw [cmpT_is.refl]; decide
  trans := fun x y z h k => by
    unfold ltR at *
    rw [decide_eq_true_iff] at *
    exact cmpT_is.trans _ _ _ h k
  ntrans := fun x y z h k => by
    unfold ltR at *
    rw [decide_eq_false_iff_not] at *
    intro hxz
    rcases cmpT_is.total y.t x.t with h1 | h1
    · have := cmpT_is.le_lt h1 hxz
      exact k this
    · exact h h1
end Go.Proofs.YtdibijhaiaiifaaDoor
