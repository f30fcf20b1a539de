/- The walk of the laws' fixed examples. -/
import Derived.Test.YtcbopckgnbameaaDoorWi
namespace Go.Proofs.YtcbopckgnbameaaDoor
open Go.RowKit
theorem ints_new (w : World) (xs : List Int) (i : Nat) (hi : i < xs.length) : (w.alloc (.cells (xs.map (Value.int .i64)).toArray 3)).cell? ⟨w.heap.size, i, none⟩ = some (.int .i64 (xs.getD i 0)) := by
  have e : (w.alloc (.cells (xs.map (Value.int .i64)).toArray 3)).heap[w.heap.size]? = some (.cells (xs.map (Value.int .i64)).toArray 3) := World.alloc_heap_new w _
  rw [cell_of_row _ w.heap.size i _ 3 (0, 0) e]
  simp [hi]
theorem spans_new (xs : List Int) (w : World) (hlen : xs.length ≤ 1000) :
    Calls Tryd.prog 29 #[.slice (some ⟨w.heap.size, 0, none⟩) xs.length xs.length] (w.alloc (.cells (xs.map (Value.int .i64)).toArray 3)) fun e w' => ∃ v, e = .returned v ∧ w'.ownsRow w.heap.size 32 2 v (pairs xs).length (flat (pairs xs)) ∧ Below w.heap.size w w' := by
  have hb : Below w.heap.size w (w.alloc (.cells (xs.map (Value.int .i64)).toArray 3)) := (Below.refl _ _).alloc (Nat.le_refl _) _
  refine (spans_any w.heap.size xs xs.length hlen _ (fun i hi => ints_new w xs i hi)).mono ?_
  rintro e w' ⟨v, rfl, ho, hb'⟩
  refine ⟨v, rfl, ?_, below_trans hb hb'⟩
  obtain ⟨h1, h2⟩ := ho
  refine ⟨h1, ?_⟩
  rcases h2 with h | ⟨g, cap, cur, h3, h4, h5⟩
  · exact .inl h
  · exact .inr ⟨g, cap, cur, h3, Nat.le_trans hb.size h4, h5⟩
theorem Same_true (va vb : Value) (a b : List Sp) (w : World) (ha : IsSpans w va a) (hb : IsSpans w vb b) (h : a = b) :
    Calls Tryd.prog 14 #[va, vb] w fun e w' => e = .returned (.bool true) ∧ Below w.heap.size w w' := by
  have e : decide (a = b) = true := decide_eq_true h
  rw [← e]; exact Same_any va vb a b w ha hb
theorem Valid_is (v : Value) (l : List Sp) (w : World) (r : Bool) (hT : Tab w) (h : IsSpans w v l) (hr : decide (l = canon (setOf l)) = r) :
    Calls Tryd.prog 12 #[v] w fun e w' => e = .returned (.bool r) ∧ Below w.heap.size w w' := by
  subst hr; exact Valid_any v l w hT h
theorem Has_is (va : Value) (a : List Sp) (k : Int) (w : World) (r : Bool) (ha : IsSpans w va a) (hr : inSet a k = r) :
    Calls Tryd.prog 25 #[va, .int .i64 k] w fun e w' => e = .returned (.bool r) ∧ Below w.heap.size w w' := by
  subst hr; exact Has_any va a k w ha
theorem Size_is (va : Value) (a : List Sp) (w : World) (n : Nat) (ha : IsSpans w va a) (hn : size a = n) :
    Calls Tryd.prog 27 #[va] w fun e w' => e = .returned (.int .i64 n) ∧ Below w.heap.size w w' := by
  subst hn; exact Size_any va a w ha
theorem wpList_guarded {P : Program} {ops : Array Oper} {Q : Exit → Act → World → Prop} {a : Act} {w : World} {rest : List Oper} {o : Oper} (hw : Region.wanted o (yielded ops a.tmps) = true)
    (h : ∀ K : Act → World → Prop, (∀ a w, wpList P ops Q rest a w → K a w) → o.wp P a w K Q) : wpList P ops Q (o :: rest) a w :=
  wpList_step fun K hK => by rw [if_pos hw]; exact h K hK
theorem one_span {w : World} {v : Value} {p q : Int} (h : IsSpans w v (pairs [p, q])) : ∃ b off c, v = .slice (some ⟨b, off, none⟩) 1 c ∧ w.cell? ⟨b, off + 0 * 2, none⟩ = some (.int .i64 p) ∧ w.cell? ⟨b, off + 0 * 2 + 1, none⟩ = some (.int .i64 q) := by
  obtain ⟨a, c, rfl, hs, _⟩ := h
  obtain ⟨b, off, rfl, hc⟩ := hs.at_ (i := 0) Nat.zero_lt_one
  exact ⟨b, off, c, rfl, (hc 0 Nat.zero_lt_one).1, (hc 0 Nat.zero_lt_one).2⟩
theorem cells_one (b off : Nat) (p q : Int) (w : World) (h1 : w.cell? ⟨b, off + 0 * 2, none⟩ = some (.int .i64 p)) (h2 : w.cell? ⟨b, off + 0 * 2 + 1, none⟩ = some (.int .i64 q)) :
    ∀ j u, (flat (pairs [p, q]))[j]? = some u → w.cell? ((⟨b, off, none⟩ : Addr).add j) = some u := by
  intro j u hj
  match j, hj with
  | 0, hj => simp [flat, pairs] at hj; subst hj; simpa [Addr.add] using h1
  | 1, hj => simp [flat, pairs] at hj; subst hj; simpa [Addr.add] using h2
set_option maxRecDepth 100000 in
set_option maxHeartbeats 4000000 in
theorem head_any (w : World) (hT : Tab w) : Calls Tryd.prog 10 #[] w fun e w' => e = .returned (.bool true) ∧ Below w.heap.size w w' := by
  obtain ⟨i0, hi, hz0', hz1', hz2⟩ := info_parts Tryd.info32
  obtain ⟨w0, hw0⟩ : ∃ w0, w = w0 := ⟨_, rfl⟩
  subst hw0
  go_enter Tryd.func10, Tryd.ntmps10
  go_wp2_with fail
  refine (spans_new [0, 2] _ (by decide)).mono ?_
  rintro e w1 ⟨v_a, rfl, o_a, b1⟩
  have h_a := IsSpans.of_owns (l := pairs [0, 2]) o_a (by decide)
  go_wp2_with fail
  refine (spans_new [2, 4] _ (by decide)).mono ?_
  rintro e w2 ⟨v_b, rfl, o_b, b2⟩
  have h_b := IsSpans.of_owns (l := pairs [2, 4]) o_b (by decide)
  obtain ⟨bb, ob, cb, rfl, hcc1, hcc2⟩ := one_span h_b
  go_wp2_with fail
  refine (spans_new [3, 5, 1, 3, 7, 7, 5, 6] _ (by decide)).mono ?_
  rintro e w3 ⟨v_c, rfl, o_c, b3⟩
  have h_c := IsSpans.of_owns (l := pairs [3, 5, 1, 3, 7, 7, 5, 6]) o_c (by decide)
  go_wp2_with fail
  refine (Of_any _ _ _ (hT.keep (below_trans (below_trans b1 b2) b3)) h_c).mono ?_
  rintro e w4 ⟨v_oc, rfl, h_oc, b4⟩
  go_wp2_with fail
  refine (spans_new [1, 6] _ (by decide)).mono ?_
  rintro e w5 ⟨v_d, rfl, o_d, b5⟩
  have h_d := IsSpans.of_owns (l := pairs [1, 6]) o_d (by decide)
  go_wp2_with fail
  refine (Same_true _ _ _ _ _ (h_oc.keep b5) h_d (by decide +kernel)).mono ?_
  rintro e w6 ⟨rfl, b6⟩
  go_wp2_with fail
  refine (Union_any _ _ _ _ _ (hT.keep (below_trans (below_trans (below_trans (below_trans (below_trans b1 b2) b3) b4) b5) b6)) (h_a.keep (below_trans (below_trans (below_trans (below_trans b2 b3) b4) b5) b6)) (h_b.keep (below_trans (below_trans (below_trans b3 b4) b5) b6))).mono ?_
  rintro e w7 ⟨v_u, rfl, h_u, b7⟩
  go_wp2_with fail
  refine (spans_new [0, 4] _ (by decide)).mono ?_
  rintro e w8 ⟨v_d2, rfl, o_d2, b8⟩
  have h_d2 := IsSpans.of_owns (l := pairs [0, 4]) o_d2 (by decide)
  go_wp2_with fail
  refine (Same_true _ _ _ _ _ (h_u.keep b8) h_d2 (by decide +kernel)).mono ?_
  rintro e w9 ⟨rfl, b9⟩
  go_wp2_with fail
  refine (Meet_any _ _ _ _ _ (hT.keep (below_trans (below_trans (below_trans (below_trans (below_trans (below_trans (below_trans (below_trans b1 b2) b3) b4) b5) b6) b7) b8) b9)) (h_a.keep (below_trans (below_trans (below_trans (below_trans (below_trans (below_trans (below_trans b2 b3) b4) b5) b6) b7) b8) b9)) (h_b.keep (below_trans (below_trans (below_trans (below_trans (below_trans (below_trans b3 b4) b5) b6) b7) b8) b9))).mono ?_
  rintro e w10 ⟨v_m, rfl, h_m, b10⟩
  rw [show (canon fun k => setOf (pairs [0, 2]) k && setOf (pairs [2, 4]) k) = [] from by decide +kernel] at h_m
  obtain ⟨am, cm, rfl, -, -⟩ := h_m
  go_wp2_with fail
  refine (spans_new [0, 10] _ (by decide)).mono ?_
  rintro e w11 ⟨v_e, rfl, o_e, b11⟩
  have h_e := IsSpans.of_owns (l := pairs [0, 10]) o_e (by decide)
  go_wp2_with fail
  refine (spans_new [3, 5] _ (by decide)).mono ?_
  rintro e w12 ⟨v_f, rfl, o_f, b12⟩
  have h_f := IsSpans.of_owns (l := pairs [3, 5]) o_f (by decide)
  go_wp2_with fail
  refine (Minus_any _ _ _ _ _ (hT.keep (below_trans (below_trans (below_trans (below_trans (below_trans (below_trans (below_trans (below_trans (below_trans (below_trans (below_trans b1 b2) b3) b4) b5) b6) b7) b8) b9) b10) b11) b12)) (h_e.keep b12) h_f).mono ?_
  rintro e w13 ⟨v_ef, rfl, h_ef, b13⟩
  go_wp2_with fail
  refine (spans_new [0, 3, 5, 10] _ (by decide)).mono ?_
  rintro e w14 ⟨v_g, rfl, o_g, b14⟩
  have h_g := IsSpans.of_owns (l := pairs [0, 3, 5, 10]) o_g (by decide)
  go_wp2_with fail
  refine (Same_true _ _ _ _ _ (h_ef.keep b14) h_g (by decide +kernel)).mono ?_
  rintro e w15 ⟨rfl, b15⟩
  go_wp2_with fail
  refine (spans_new [0, 1, 60, 70] _ (by decide)).mono ?_
  rintro e w16 ⟨v_i, rfl, o_i, b16⟩
  have h_i := IsSpans.of_owns (l := pairs [0, 1, 60, 70]) o_i (by decide)
  go_wp2_with fail
  refine (Not_any _ _ _ (hT.keep (below_trans (below_trans (below_trans (below_trans (below_trans (below_trans (below_trans (below_trans (below_trans (below_trans (below_trans (below_trans (below_trans (below_trans (below_trans b1 b2) b3) b4) b5) b6) b7) b8) b9) b10) b11) b12) b13) b14) b15) b16)) h_i).mono ?_
  rintro e w17 ⟨v_ni, rfl, h_ni, b17⟩
  go_wp2_with fail
  refine (spans_new [1, 60] _ (by decide)).mono ?_
  rintro e w18 ⟨v_j, rfl, o_j, b18⟩
  have h_j := IsSpans.of_owns (l := pairs [1, 60]) o_j (by decide)
  go_wp2_with fail
  refine (Same_true _ _ _ _ _ (h_ni.keep b18) h_j (by decide +kernel)).mono ?_
  rintro e w19 ⟨rfl, b19⟩
  go_wp2_with fail
  refine (Valid_is _ _ _ true (hT.keep (below_trans (below_trans (below_trans (below_trans (below_trans (below_trans (below_trans (below_trans (below_trans (below_trans (below_trans (below_trans (below_trans (below_trans (below_trans (below_trans (below_trans (below_trans b1 b2) b3) b4) b5) b6) b7) b8) b9) b10) b11) b12) b13) b14) b15) b16) b17) b18) b19)) (h_a.keep (below_trans (below_trans (below_trans (below_trans (below_trans (below_trans (below_trans (below_trans (below_trans (below_trans (below_trans (below_trans (below_trans (below_trans (below_trans (below_trans (below_trans b2 b3) b4) b5) b6) b7) b8) b9) b10) b11) b12) b13) b14) b15) b16) b17) b18) b19)) (by decide +kernel)).mono ?_
  rintro e w20 ⟨rfl, b20⟩
  go_wp2_with fail
  refine (spans_new [0, 2] _ (by decide)).mono ?_
  rintro e w21 ⟨v_k, rfl, o_k, b21⟩
  have h_k := IsSpans.of_owns (l := pairs [0, 2]) o_k (by decide)
  go_wp2_with (at_builtin; refine wpList_guarded rfl (fun K hK => ?_); refine wp_append_own _ _ _ 22 rfl w20.heap.size 32 i0 (.agg #[.int .i64 0, .int .i64 0]) 2 16 Tryd.underlying22 hi hz0' hz1' hz2 rfl (by decide) _ _ _ rfl o_k ⟨bb, ob, none⟩ 1 cb (flat (pairs [2, 4])) rfl rfl (cells_one bb ob 2 4 _ (cell_keep (below_trans (below_trans (below_trans (below_trans (below_trans (below_trans (below_trans (below_trans (below_trans (below_trans (below_trans (below_trans (below_trans (below_trans (below_trans (below_trans (below_trans (below_trans b3 b4) b5) b6) b7) b8) b9) b10) b11) b12) b13) b14) b15) b16) b17) b18) b19) b20) b21) hcc1) (cell_keep (below_trans (below_trans (below_trans (below_trans (below_trans (below_trans (below_trans (below_trans (below_trans (below_trans (below_trans (below_trans (below_trans (below_trans (below_trans (below_trans (below_trans (below_trans b3 b4) b5) b6) b7) b8) b9) b10) b11) b12) b13) b14) b15) b16) b17) b18) b19) b20) b21) hcc2)) (by simp [flat, pairs, Value.oneCell']) (by decide) (by decide) b21.size (fun v' wx hown' hgrow _ => hK _ _ ?_))
  have c21 := b21.grown hgrow b21.size (own_from o_k)
  clear b21
  have b21 := c21
  have h_x := IsSpans.of_owns (l := pairs [0, 2, 2, 4]) hown' (by decide)
  go_wp2_with fail
  refine (Valid_is _ _ _ false (hT.keep (below_trans (below_trans (below_trans (below_trans (below_trans (below_trans (below_trans (below_trans (below_trans (below_trans (below_trans (below_trans (below_trans (below_trans (below_trans (below_trans (below_trans (below_trans (below_trans (below_trans b1 b2) b3) b4) b5) b6) b7) b8) b9) b10) b11) b12) b13) b14) b15) b16) b17) b18) b19) b20) b21)) h_x (by decide +kernel)).mono ?_
  rintro e w22 ⟨rfl, b22⟩
  go_wp2_with fail
  refine (Has_is _ _ _ _ true (h_a.keep (below_trans (below_trans (below_trans (below_trans (below_trans (below_trans (below_trans (below_trans (below_trans (below_trans (below_trans (below_trans (below_trans (below_trans (below_trans (below_trans (below_trans (below_trans (below_trans (below_trans b2 b3) b4) b5) b6) b7) b8) b9) b10) b11) b12) b13) b14) b15) b16) b17) b18) b19) b20) b21) b22)) (by decide +kernel)).mono ?_
  rintro e w23 ⟨rfl, b23⟩
  go_wp2_with fail
  refine (Has_is _ _ _ _ false (h_a.keep (below_trans (below_trans (below_trans (below_trans (below_trans (below_trans (below_trans (below_trans (below_trans (below_trans (below_trans (below_trans (below_trans (below_trans (below_trans (below_trans (below_trans (below_trans (below_trans (below_trans (below_trans b2 b3) b4) b5) b6) b7) b8) b9) b10) b11) b12) b13) b14) b15) b16) b17) b18) b19) b20) b21) b22) b23)) (by decide +kernel)).mono ?_
  rintro e w24 ⟨rfl, b24⟩
  go_wp2_with fail
  refine (spans_new [0, 3, 2, 5] _ (by decide)).mono ?_
  rintro e w25 ⟨v_y, rfl, o_y, b25⟩
  have h_y := IsSpans.of_owns (l := pairs [0, 3, 2, 5]) o_y (by decide)
  go_wp2_with fail
  refine (Size_is _ _ _ 5 h_y (by decide +kernel)).mono ?_
  rintro e w26 ⟨rfl, b26⟩
  go_wp2
  go_ret
  exact ⟨rfl, (below_trans (below_trans (below_trans (below_trans (below_trans (below_trans (below_trans (below_trans (below_trans (below_trans (below_trans (below_trans (below_trans (below_trans (below_trans (below_trans (below_trans (below_trans (below_trans (below_trans (below_trans (below_trans (below_trans (below_trans (below_trans b1 b2) b3) b4) b5) b6) b7) b8) b9) b10) b11) b12) b13) b14) b15) b16) b17) b18) b19) b20) b21) b22) b23) b24) b25) b26)⟩
end Go.Proofs.YtcbopckgnbameaaDoor
