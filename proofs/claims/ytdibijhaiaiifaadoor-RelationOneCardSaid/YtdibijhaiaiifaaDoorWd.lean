/- The walks of package interval's exported functions that return lists, numbers and Has. -/
import Derived.Test.YtdibijhaiaiifaaDoorWc
namespace Go.Proofs.YtdibijhaiaiifaaDoor
open Go.RowKit
def andTo (x y : Nat) : Nat → Nat
  | 0 => top64
  | 1 => top64 &&& x
  | _ => (top64 &&& x) &&& y
theorem top_and (x : Nat) (hx : x < 18446744073709551616) : top64 &&& x = x := by
  rw [Nat.and_comm, show top64 = 2 ^ 64 - 1 from rfl, Nat.and_two_pow_sub_one_eq_mod]
  exact Nat.mod_eq_of_lt hx
theorem andTo_two (x y : Nat) (hx : x < 18446744073709551616) : andTo x y 2 = x &&& y := by
  show (top64 &&& x) &&& y = _
  rw [top_and x hx]
theorem andTo_one (x y : Nat) : andTo x y 0 &&& x = andTo x y 1 := by simp only [andTo]
theorem andTo_two' (x y : Nat) : andTo x y 1 &&& y = andTo x y 2 := by simp only [andTo]
theorem andTo_lt (x y : Nat) (hx : x < 18446744073709551616) : andTo x y 0 < 18446744073709551616 ∧ andTo x y 1 < 18446744073709551616 := by
  refine ⟨?_, ?_⟩
  · show top64 < _
    unfold top64; omega
  · show top64 &&& x < _
    exact and_lt hx
theorem andTo_zero (x y : Nat) : (18446744073709551615 : Int) = ((andTo x y 0 : Nat) : Int) := by
  show _ = ((top64 : Nat) : Int)
  unfold top64; omega
theorem all_any (x y b : Nat) (hx : x < 18446744073709551616) (hy : y < 18446744073709551616) (w : World) (c0 : w.cell? ⟨b, 0, none⟩ = some (.int .u64 x)) (c1 : w.cell? ⟨b, 1, none⟩ = some (.int .u64 y)) :
    Calls Tryd.prog 97 #[.slice (some ⟨b, 0, none⟩) 2 2] w fun e w' => e = .returned (.int .u64 (x &&& y : Nat)) ∧ w = w' := by
  have E0 := Lib.hid (andTo_zero x y)
  have E1 := Lib.hid (show bits .and .u64 ((andTo x y 0 : Nat) : Int) (x : Int) = ((andTo x y 1 : Nat) : Int) from by rw [u64_and_nat _ _ (andTo_lt x y hx).1 hx, andTo_one])
  have E2 := Lib.hid (show bits .and .u64 ((andTo x y 1 : Nat) : Int) (y : Int) = ((andTo x y 2 : Nat) : Int) from by rw [u64_and_nat _ _ (andTo_lt x y hx).2 hy, andTo_two'])
  have E3 := Lib.hid (andTo_two x y hx)
  go_enter Tryd.func97, Tryd.ntmps97
  go_wp2
  go_loop [3, 5, 8] (fun t _ i => ∃ k : Nat, k ≤ 2 ∧ i = .int .i64 k ∧ t = .int .u64 (andTo x y k)) (fun _ _ i => 2 - (intOf i).toNat)
  case atStart => exact ⟨0, by omega, rfl, congrArg (Value.int .u64) E0.out⟩
  case round =>
    obtain ⟨k, hk, rfl, rfl⟩ := hrel
    rcases (show k = 0 ∨ k = 1 ∨ k = 2 from by omega) with rfl | rfl | rfl
    · go_wp2
      go_round
      case rel => exact ⟨1, by omega, rfl, congrArg (Value.int .u64) E1.out⟩
      case measure => simp [intOf]
    · go_wp2
      go_round
      case rel => exact ⟨2, by omega, rfl, congrArg (Value.int .u64) E2.out⟩
      case measure => simp [intOf]
    · go_wp2
      go_ret
      exact ⟨ret_int (by rw [E3.out]), rfl⟩
theorem cell2 (w : World) (x y : Value) (t : TypeId) : (w.alloc (.cells #[x, y] t)).cell? ⟨w.heap.size, 0, none⟩ = some x ∧ (w.alloc (.cells #[x, y] t)).cell? ⟨w.heap.size, 1, none⟩ = some y := by
  have e : (w.alloc (.cells #[x, y] t)).heap[w.heap.size]? = some (.cells #[x, y] t) := World.alloc_heap_new w _
  exact ⟨cell_of_row _ w.heap.size 0 #[x, y] t (0, 0) e, cell_of_row _ w.heap.size 1 #[x, y] t (0, 0) e⟩
theorem list_int (z : Int) (x : Nat) (h : z = x) (hx : x < 18446744073709551616) (S : Nat → Bool) (hS : ∀ k, k < 64 → x.testBit k = S k) (w : World) (hT : Tab w) :
    Calls Tryd.prog 98 #[.int .u64 z] w fun e w' => ∃ v, e = .returned v ∧ IsSpansF w' w.heap.size v (canon S) ∧ Below w.heap.size w w' := by
  subst h
  rw [← canon_ext (S := bitsOf x) hS]
  exact list_any x hx w hT
theorem Of_any (v : Value) (l : List Sp) (w : World) (hT : Tab w) (h : IsSpans w v l) :
    Calls Tryd.prog 78 #[v] w fun e w' => ∃ u, e = .returned u ∧ IsSpansF w' w.heap.size u (canon (setOf l)) ∧ Below w.heap.size w w' := by
  go_enter Tryd.func78, Tryd.ntmps78
  go_wp2_with fail
  refine (of_any v l _ h).mono ?_
  rintro e w1 ⟨rfl, hb1⟩
  go_wp2_with fail
  refine (list_int _ _ rfl (ofW_lt l) (setOf l) (ofW_bit l) _ (hT.keep hb1)).mono ?_
  rintro e w2 ⟨u, rfl, hu, hb2⟩
  go_wp2
  go_ret
  exact ⟨u, rfl, ⟨hu.1, hu.2.mono (hb1.size)⟩, below_trans hb1 hb2⟩
theorem Union_any (va vb : Value) (a b : List Sp) (w : World) (hT : Tab w) (ha : IsSpans w va a) (hb : IsSpans w vb b) :
    Calls Tryd.prog 49 #[va, vb] w fun e w' => ∃ u, e = .returned u ∧ IsSpansF w' w.heap.size u (canon fun k => setOf a k || setOf b k) ∧ Below w.heap.size w w' := by
  go_enter Tryd.func49, Tryd.ntmps49
  go_wp2_with fail
  refine (of_any va a _ ha).mono ?_
  rintro e w1 ⟨rfl, hb1⟩
  go_wp2_with fail
  refine (of_any vb b _ (hb.keep hb1)).mono ?_
  rintro e w2 ⟨rfl, hb2⟩
  go_wp2_with fail
  refine (list_int _ _ (u64_or_nat _ _ (ofW_lt a) (ofW_lt b)) (or_lt (ofW_lt a) (ofW_lt b)) (fun k => setOf a k || setOf b k) (fun k hk => by rw [Nat.testBit_or, ofW_bit a k hk, ofW_bit b k hk]) _ ((hT.keep hb1).keep hb2)).mono ?_
  rintro e w3 ⟨u, rfl, hu, hb3⟩
  go_wp2
  go_ret
  exact ⟨u, rfl, ⟨hu.1, hu.2.mono ((below_trans hb1 hb2).size)⟩, below_trans (below_trans hb1 hb2) hb3⟩
theorem Meet_any (va vb : Value) (a b : List Sp) (w : World) (hT : Tab w) (ha : IsSpans w va a) (hb : IsSpans w vb b) :
    Calls Tryd.prog 84 #[va, vb] w fun e w' => ∃ u, e = .returned u ∧ IsSpansF w' w.heap.size u (canon fun k => setOf a k && setOf b k) ∧ Below w.heap.size w w' := by
  go_enter Tryd.func84, Tryd.ntmps84
  go_wp2_with fail
  refine (of_any va a _ ha).mono ?_
  rintro e w1 ⟨rfl, hb1⟩
  go_wp2_with fail
  refine (of_any vb b _ (hb.keep hb1)).mono ?_
  rintro e w2 ⟨rfl, hb2⟩
  go_wp2_with fail
  obtain ⟨c0, c1⟩ := cell2 w2 (.int .u64 (ofW a)) (.int .u64 (ofW b)) 101
  refine (all_any _ _ _ (ofW_lt a) (ofW_lt b) _ c0 c1).mono ?_
  rintro e w3 ⟨rfl, rfl⟩
  go_wp2_with fail
  have hb3 : Below w2.heap.size w2 (w2.alloc (.cells #[.int .u64 (ofW a), .int .u64 (ofW b)] 101)) := (Below.refl _ _).alloc (Nat.le_refl _) _
  refine (list_int _ _ rfl (and_lt (ofW_lt b)) (fun k => setOf a k && setOf b k) (fun k hk => by rw [Nat.testBit_and, ofW_bit a k hk, ofW_bit b k hk]) _ (((hT.keep hb1).keep hb2).keep hb3)).mono ?_
  rintro e w4 ⟨u, rfl, hu, hb4⟩
  go_wp2
  go_ret
  exact ⟨u, rfl, ⟨hu.1, hu.2.mono ((below_trans (below_trans hb1 hb2) hb3).size)⟩, below_trans (below_trans (below_trans hb1 hb2) hb3) hb4⟩
theorem Minus_any (va vb : Value) (a b : List Sp) (w : World) (hT : Tab w) (ha : IsSpans w va a) (hb : IsSpans w vb b) :
    Calls Tryd.prog 48 #[va, vb] w fun e w' => ∃ u, e = .returned u ∧ IsSpansF w' w.heap.size u (canon fun k => setOf a k && !setOf b k) ∧ Below w.heap.size w w' := by
  go_enter Tryd.func48, Tryd.ntmps48
  go_wp2_with fail
  refine (of_any va a _ ha).mono ?_
  rintro e w1 ⟨rfl, hb1⟩
  go_wp2_with fail
  refine (of_any vb b _ (hb.keep hb1)).mono ?_
  rintro e w2 ⟨rfl, hb2⟩
  go_wp2_with fail
  rw [xor_top _ (ofW_lt b)]
  obtain ⟨c0, c1⟩ := cell2 w2 (.int .u64 (ofW a)) (.int .u64 (notW (ofW b) : Nat)) 101
  refine (all_any _ _ _ (ofW_lt a) (notW_lt _) _ c0 c1).mono ?_
  rintro e w3 ⟨rfl, rfl⟩
  go_wp2_with fail
  have hb3 : Below w2.heap.size w2 (w2.alloc (.cells #[.int .u64 (ofW a), .int .u64 (notW (ofW b) : Nat)] 101)) := (Below.refl _ _).alloc (Nat.le_refl _) _
  refine (list_int _ _ rfl (and_lt (notW_lt _)) (fun k => setOf a k && !setOf b k) (fun k hk => by rw [Nat.testBit_and, notW_bit _ _ (ofW_lt b) hk, ofW_bit a k hk, ofW_bit b k hk]) _ (((hT.keep hb1).keep hb2).keep hb3)).mono ?_
  rintro e w4 ⟨u, rfl, hu, hb4⟩
  go_wp2
  go_ret
  exact ⟨u, rfl, ⟨hu.1, hu.2.mono ((below_trans (below_trans hb1 hb2) hb3).size)⟩, below_trans (below_trans (below_trans hb1 hb2) hb3) hb4⟩
theorem bit_test (x n : Nat) (hx : x < 18446744073709551616) : (bits .and .u64 ((x : Int) / 2 ^ n) 1 == 1) = x.testBit n := by
  rw [castDiv, show (1 : Int) = ((1 : Nat) : Int) from rfl, u64_and_nat _ _ (div_lt x n hx) (by omega), Nat.testBit_eq_decide_div_mod_eq, show (1 : Nat) = 2 ^ 1 - 1 from rfl, Nat.and_two_pow_sub_one_eq_mod]
  generalize x / 2 ^ n = y
  rw [Bool.eq_iff_iff]; simp; omega
/-- Whether a moment is in a list's set. -/
def inSet (l : List Sp) (k : Int) : Bool := decide (0 ≤ k) && decide (k < 64) && has l k
theorem Has_any (va : Value) (a : List Sp) (k : Int) (w : World) (ha : IsSpans w va a) :
    Calls Tryd.prog 43 #[va, .int .i64 k] w fun e w' => e = .returned (.bool (inSet a k)) ∧ Below w.heap.size w w' := by
  by_cases h0 : 0 ≤ k
  · by_cases h1 : k < 64
    · obtain ⟨n, rfl⟩ := Int.eq_ofNat_of_zero_le h0
      have E := Lib.hid (show inSet a (n : Int) = (ofW a).testBit n from by rw [ofW_bit a n (by omega)]; simp [inSet, setOf]; omega)
      go_enter Tryd.func43, Tryd.ntmps43
      go_wp2_with (first | (go_at_call 95; refine (of_any va a _ ha).mono ?_; rintro e w1 ⟨rfl, hb1⟩))
      go_ret
      exact ⟨by rw [E.out, ← bit_test _ _ (ofW_lt a)]; rfl, hb1⟩
    · have E := Lib.hid (show inSet a k = false from by simp [inSet]; omega)
      go_enter Tryd.func43, Tryd.ntmps43
      go_wp2
      go_ret
      exact ⟨by rw [E.out]; rfl, Below.refl _ _⟩
  · have E := Lib.hid (show inSet a k = false from by simp [inSet]; omega)
    go_enter Tryd.func43, Tryd.ntmps43
    go_wp2
    go_ret
    exact ⟨by rw [E.out]; rfl, Below.refl _ _⟩
end Go.Proofs.YtdibijhaiaiifaaDoor
