/- The walks of the small functions of the laws: Int, Sym, pair, row. -/
import Derived.Test.YtdibijhaiaiifaaDoorRa
namespace Go.Proofs.YtdibijhaiaiifaaDoor
open Go.RowKit
def intVl (n : Int) : Vl := ⟨1, n, [], by simp⟩
def symVl (l : List UInt8) (h : l.length ≤ 9223372036854775807) : Vl := ⟨2, 0, l, h⟩
theorem Int_any (n : Int) (w : World) : Calls Tryd.prog 71 #[.int .i64 n] w fun e w' => e = .returned (.agg #[.int .i64 1, .int .i64 n, strV []]) ∧ Below w.heap.size w w' := by
  have X := Cel.new w 58 [.int .i64 1, .int .i64 n, strV []]
  have c0 := X.at_ (j := 0) rfl
  have c1 := X.at_ (j := 1) rfl
  have c2 := X.at_ (j := 2) rfl
  have B := below_new w (.cells #[.int .i64 1, .int .i64 n, strV []] 58)
  go_enter Tryd.func71, Tryd.ntmps71
  go_wp2
  refine bodyPost_ret (v := .agg #[.int .i64 1, .int .i64 n, strV []]) (by simp [results, Tryd.results71, go_sem, c0, c1, c2]) rfl ?_
  exact ⟨rfl, B⟩
theorem Sym_any (l : List UInt8) (w : World) : Calls Tryd.prog 99 #[strV l] w fun e w' => e = .returned (.agg #[.int .i64 2, .int .i64 0, strV l]) ∧ Below w.heap.size w w' := by
  have X := Cel.new w 58 [.int .i64 2, .int .i64 0, strV l]
  have c0 := X.at_ (j := 0) rfl
  have c1 := X.at_ (j := 1) rfl
  have c2 := X.at_ (j := 2) rfl
  have B := below_new w (.cells #[.int .i64 2, .int .i64 0, strV l] 58)
  go_enter Tryd.func99, Tryd.ntmps99
  go_wp2
  refine bodyPost_ret (v := .agg #[.int .i64 2, .int .i64 0, strV l]) (by simp [results, Tryd.results99, go_sem, c0, c1, c2]) rfl ?_
  exact ⟨rfl, B⟩
def pairT (l : List UInt8) (h : l.length ≤ 9223372036854775807) (n : Int) : Tp := [symVl l h, intVl n]
theorem pair_any (l : List UInt8) (hl : l.length ≤ 9223372036854775807) (n : Int) (w : World) : Calls Tryd.prog 70 #[strV l, .int .i64 n] w fun e w' => ∃ u, e = .returned u ∧ IsVals w' u (pairT l hl n) ∧ Fresh w.heap.size u ∧ Below w.heap.size w w' := by
  go_enter Tryd.func70, Tryd.ntmps70
  go_wp2_with fail
  refine (Sym_any l _).mono ?_
  rintro e w1 ⟨rfl, B1⟩
  go_wp2_with fail
  refine (Int_any n _).mono ?_
  rintro e w2 ⟨rfl, B2⟩
  have hm : IsVals (w2.alloc (.cells #[.int .i64 2, .int .i64 0, strV l, .int .i64 1, .int .i64 n, strV []] 58)) (.slice (some ⟨w2.heap.size, 0, none⟩) 2 2) (pairT l hl n) := IsRows.lit w2 (pairT l hl n) encsV (by simp [pairT])
  have B3 := below_new w2 (.cells #[.int .i64 2, .int .i64 0, strV l, .int .i64 1, .int .i64 n, strV []] 58)
  go_wp2
  go_ret
  exact ⟨_, rfl, hm, fun b hb => by have h1 := B1.size; have h2 := B2.size; simp [Value.ownBlock] at hb; omega, below_trans B1 (below_trans B2 B3)⟩
theorem row_any (l : List UInt8) (hl : l.length ≤ 9223372036854775807) (n f t : Int) (w : World) : Calls Tryd.prog 69 #[strV l, .int .i64 n, .int .i64 f, .int .i64 t] w fun e w' => ∃ r : RR, e = .returned (rowV r) ∧ RowOk w' r ∧ r.rw = (pairT l hl n, [(f, t)]) ∧ Below w.heap.size w w' := by
  have B0 := below_new w (.cells #[.slice none 0 0, .slice none 0 0] 44)
  have X0 := Cel.new w 44 [.slice none 0 0, .slice none 0 0]
  go_enter Tryd.func69, Tryd.ntmps69
  go_upto_region 1 with fail
  obtain ⟨w1, hw1⟩ : ∃ z, w.alloc (.cells #[.slice none 0 0, .slice none 0 0] 44) = z := ⟨_, rfl⟩
  have X1 : Cel w1 w.heap.size 44 [.slice none 0 0, .slice none 0 0] := by rw [← hw1]; exact X0
  rw [hw1] at B0
  rw [hw1]
  clear hw1 X0
  go_wp2_with fail
  refine (pair_any l hl n _).mono ?_
  rintro e w2 ⟨u, rfl, hu, hfr, B2⟩
  obtain ⟨pu, cu, rfl, hu'⟩ := hu
  have hv : IsVals w2 (.slice pu (pairT l hl n).length cu) (pairT l hl n) := ⟨pu, cu, rfl, hu'⟩
  have hs := IsRows.lit (e := 86) w2 [(f, t)] encsS (by simp)
  have B3 := below_new w2 (.cells #[.int .i64 f, .int .i64 t] 86)
  have X3 := (X1.keep B2).keep B3
  have c0 := X3.at_ (j := 0) rfl
  have c1 := X3.at_ (j := 1) rfl
  have f0 := X3.free 0
  have f1 := X3.free 1
  obtain ⟨q, hq⟩ : ∃ q : RR, q = ⟨pu, cu, pairT l hl n, some ⟨w2.heap.size, 0, none⟩, 1, [(f, t)]⟩ := ⟨_, rfl⟩
  have RQ : RowOk (w2.alloc (.cells #[.int .i64 f, .int .i64 t] 86)) q := by rw [hq]; exact ⟨hv.keep B3, IsSpans.of_rows hs⟩
  have X4 := (X3.set 0 (.slice pu (pairT l hl n).length cu)).set 1 (.slice (some ⟨w2.heap.size, 0, none⟩) 1 1)
  have A4 : Agree (fun k => k = w.heap.size) (w2.alloc (.cells #[.int .i64 f, .int .i64 t] 86)) (((w2.alloc (.cells #[.int .i64 f, .int .i64 t] 86)).setCell ⟨w.heap.size, 0, none⟩ (.slice pu (pairT l hl n).length cu)).setCell ⟨w.heap.size, 1, none⟩ (.slice (some ⟨w2.heap.size, 0, none⟩) 1 1)) :=
    Agree.setCell (p := ⟨w.heap.size, 1, none⟩) (Agree.setCell (p := ⟨w.heap.size, 0, none⟩) (Agree.refl (fun k => k = w.heap.size) _) (.inl rfl) _) (.inl rfl) _
  have hlt := X1.lt
  have hs2 := B2.size
  have R4 := (show RowOk _ q from ⟨IsRows.agree RQ.1 A4 fun b hb e => by
      rw [hq] at hb; have := hfr b hb; omega, RQ.2.agree A4 fun b hb e => by rw [hq] at hb; simp [Value.ownBlock] at hb; omega⟩)
  have B4 : Below w.heap.size w (((w2.alloc (.cells #[.int .i64 f, .int .i64 t] 86)).setCell ⟨w.heap.size, 0, none⟩ (.slice pu (pairT l hl n).length cu)).setCell ⟨w.heap.size, 1, none⟩ (.slice (some ⟨w2.heap.size, 0, none⟩) 1 1)) :=
    (below_trans B0 (below_trans B2 B3)).trans (A4.below (by have := B3.size; have := (below_trans B0 B2).size; omega) fun k hk => by omega)
  have d0 := X4.at_ (j := 0) rfl
  have d1 := X4.at_ (j := 1) rfl
  go_wp2
  refine bodyPost_ret (v := .agg #[.slice pu (pairT l hl n).length cu, .slice (some ⟨w2.heap.size, 0, none⟩) 1 1]) (by simp [results, Tryd.results69, go_sem, d0, d1]) rfl ?_
  exact ⟨q, by rw [hq]; rfl, R4, by rw [hq]; rfl, B4⟩
end Go.Proofs.YtdibijhaiaiifaaDoor
