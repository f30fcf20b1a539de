/- The walks of byArgs and of the library's Clone. -/
import Derived.Test.YtdibijhaiaiifaaDoorRws
import Derived.Lib.LazyBuf
namespace Go.Proofs.YtdibijhaiaiifaaDoor
open Go.RowKit
theorem cells2 (w : World) (x y : Value) (t : TypeId) : (w.alloc (.cells #[x, y] t)).cell? ⟨w.heap.size, 0, none⟩ = some x ∧ (w.alloc (.cells #[x, y] t)).cell? ⟨w.heap.size, 1, none⟩ = some y := by
  have e : (w.alloc (.cells #[x, y] t)).heap[w.heap.size]? = some (.cells #[x, y] t) := World.alloc_heap_new w _
  exact ⟨cell_at e rfl, cell_at e rfl⟩
theorem byArgs_any (x y : RR) (w : World) (hx : IsVals w x.av x.t) (hy : IsVals w y.av y.t) : Calls Tryd.prog 73 #[rowV x, rowV y] w fun e w' => e = .returned (.int .i64 (cmpT x.t y.t)) ∧ Grew w w' := by
  unfold rowV
  have g := ((Grew.refl w).alloc (.cells #[x.av, x.wv] 44)).alloc (.cells #[y.av, y.wv] 44)
  obtain ⟨x0, x1⟩ := cells2 w x.av x.wv 44
  obtain ⟨y0, y1⟩ := cells2 (w.alloc (.cells #[x.av, x.wv] 44)) y.av y.wv 44
  have bb := below_new (w.alloc (.cells #[x.av, x.wv] 44)) (.cells #[y.av, y.wv] 44)
  replace x0 := cell_keep bb x0
  replace x1 := cell_keep bb x1
  clear bb
  rw [show (w.alloc (.cells #[x.av, x.wv] 44)).heap.size = w.heap.size + 1 by simp] at y0 y1
  go_enter Tryd.func73, Tryd.ntmps73
  go_upto_region 1 with fail
  obtain ⟨w0, hw0⟩ : ∃ u : World, u = (w.alloc (.cells #[x.av, x.wv] 44)).alloc (.cells #[y.av, y.wv] 44) := ⟨_, rfl⟩
  rw [← hw0] at x0 x1 y0 y1 g
  rw [← hw0]
  clear hw0
  go_wp2_with fail
  refine (CompareTuple_any _ _ x.t y.t _ (hx.keep g.below) (hy.keep g.below)).mono ?_
  rintro e w3 ⟨rfl, hg⟩
  go_wp2
  go_ret
  exact ⟨rfl, g.trans hg⟩
set_option maxRecDepth 100000 in
theorem CloneR_any (v : Value) (l : List RR) (w : World) (h : IsRows 2 encR w v l) (hl : l.length ≤ 1000000) :
    Calls Tryd.prog 127 #[v] w fun e w' => ∃ u, e = .returned u ∧ Owns 2 44 encR w' w.heap.size u l ∧ Below w.heap.size w w' := by
  have h0 : Owns 2 44 encR (w.alloc (.cells #[] 44)) w.heap.size (.slice (some ⟨w.heap.size, 0, none⟩) 0 0) [] := Owns.lit w
  have b0 := below_new w (.cells #[] 44)
  have hx := h.keep (keeps_below b0)
  have heq := fun (w : World) (a : Option Addr) (l c : Nat) => Lib.run_eql_slice_nil (P := Tryd.prog) w 24 44 a l c 0 0 Tryd.underlying24
  obtain ⟨a, c, rfl, hr, hm⟩ := h
  cases a with
  | none =>
    have hn : l = [] := by
      rcases hr with h | ⟨b, off, ha, _⟩
      · exact h
      · cases ha
    subst hn
    go_enter Tryd.func127, Tryd.ntmps127
    go_wp2
    go_ret
    exact ⟨_, rfl, Owns.nil _ _, Below.refl _ _⟩
  | some ad =>
    go_enter Tryd.func127, Tryd.ntmps127
    go_wp2_with (at_builtin; refine wpList_cat fitsR24 encsR rfl _ _ rfl rfl rfl h0 (Below.refl _ _) hx (by simp) (by simp) hl ?_; intro p1 c1 w1 hO hB hG)
    go_ret
    exact ⟨_, rfl, hO, b0.trans hB⟩
set_option maxRecDepth 100000 in
theorem CloneV_any (v : Value) (l : List Vl) (w : World) (h : IsRows 3 encVl w v l) (hl : l.length ≤ 1000000) :
    Calls Tryd.prog 129 #[v] w fun e w' => ∃ u, e = .returned u ∧ Owns 3 58 encVl w' w.heap.size u l ∧ Below w.heap.size w w' := by
  have h0 : Owns 3 58 encVl (w.alloc (.cells #[] 58)) w.heap.size (.slice (some ⟨w.heap.size, 0, none⟩) 0 0) [] := Owns.lit w
  have b0 := below_new w (.cells #[] 58)
  have hx := h.keep (keeps_below b0)
  have heq := fun (w : World) (a : Option Addr) (l c : Nat) => Lib.run_eql_slice_nil (P := Tryd.prog) w 25 58 a l c 0 0 Tryd.underlying25
  obtain ⟨a, c, rfl, hr, hm⟩ := h
  cases a with
  | none =>
    have hn : l = [] := by
      rcases hr with h | ⟨b, off, ha, _⟩
      · exact h
      · cases ha
    subst hn
    go_enter Tryd.func129, Tryd.ntmps129
    go_wp2
    go_ret
    exact ⟨_, rfl, Owns.nil _ _, Below.refl _ _⟩
  | some ad =>
    go_enter Tryd.func129, Tryd.ntmps129
    go_wp2_with (at_builtin; refine wpList_cat fitsV encsV rfl _ _ rfl rfl rfl h0 (Below.refl _ _) hx (by simp) (by simp) hl ?_; intro p1 c1 w1 hO hB hG)
    go_ret
    exact ⟨_, rfl, hO, b0.trans hB⟩
set_option maxRecDepth 100000 in
theorem CloneW_any (v : Value) (l : List RR) (w : World) (h : IsRows 2 encR w v l) (hl : l.length ≤ 1000000) :
    Calls Tryd.prog 136 #[v] w fun e w' => ∃ u, e = .returned u ∧ Owns 2 44 encR w' w.heap.size u l ∧ Below w.heap.size w w' := by
  have h0 : Owns 2 44 encR (w.alloc (.cells #[] 44)) w.heap.size (.slice (some ⟨w.heap.size, 0, none⟩) 0 0) [] := Owns.lit w
  have b0 := below_new w (.cells #[] 44)
  have hx := h.keep (keeps_below b0)
  have heq := fun (w : World) (a : Option Addr) (l c : Nat) => Lib.run_eql_slice_nil (P := Tryd.prog) w 23 44 a l c 0 0 Tryd.underlying23
  obtain ⟨a, c, rfl, hr, hm⟩ := h
  cases a with
  | none =>
    have hn : l = [] := by
      rcases hr with h | ⟨b, off, ha, _⟩
      · exact h
      · cases ha
    subst hn
    go_enter Tryd.func136, Tryd.ntmps136
    go_wp2
    go_ret
    exact ⟨_, rfl, Owns.nil _ _, Below.refl _ _⟩
  | some ad =>
    go_enter Tryd.func136, Tryd.ntmps136
    go_wp2_with (at_builtin; refine wpList_cat fitsR23 encsR rfl _ _ rfl rfl rfl h0 (Below.refl _ _) hx (by simp) (by simp) hl ?_; intro p1 c1 w1 hO hB hG)
    go_ret
    exact ⟨_, rfl, hO, b0.trans hB⟩
end Go.Proofs.YtdibijhaiaiifaaDoor
