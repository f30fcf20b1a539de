/- The walks of the reference's operations. -/
import Derived.Test.YtdibijhaiaiifaaDoorWg
namespace Go.Proofs.YtdibijhaiaiifaaDoor
open Go.RowKit
theorem BoolBlk.far {w : World} {b : Nat} {f : Nat → Bool} (h : BoolBlk w b f) {p : Addr} (hp : b ≠ p.block) (u : Value) : BoolBlk (w.setCell p u) b f := by
  obtain ⟨cs, h, r⟩ := h
  exact ⟨cs, (Below.heap_setCell w p u b hp).trans h, r⟩
theorem rOf_any (v : Value) (l : List Sp) (w : World) (h : IsSpans w v l) :
    Calls Tryd.prog 79 #[v] w fun e w' => ∃ u, e = .returned u ∧ IsSpans w' u (canon (setOf l)) ∧ Below w.heap.size w w' := by
  go_enter Tryd.func79, Tryd.ntmps79
  go_wp2_with fail
  refine (Bits_any v l _ h).mono ?_
  rintro e w1 ⟨b, f, rfl, hb, hblk, hf, hb1⟩
  go_wp2_with fail
  refine (List_any b f _ hblk).mono ?_
  rintro e w2 ⟨u, rfl, hu, hb2⟩
  go_wp2
  go_ret
  exact ⟨u, rfl, by rw [← canon_ext hf]; exact hu, below_trans hb1 hb2⟩
set_option maxHeartbeats 2000000 in
theorem rUnion_any (va vb : Value) (a b : List Sp) (w : World) (ha : IsSpans w va a) (hb : IsSpans w vb b) :
    Calls Tryd.prog 81 #[va, vb] w fun e w' => ∃ u, e = .returned u ∧ IsSpans w' u (canon fun k => setOf a k || setOf b k) ∧ Below w.heap.size w w' := by
  go_enter Tryd.func81, Tryd.ntmps81
  go_wp2_with fail
  refine (Bits_any va a _ ha).mono ?_
  rintro e w1 ⟨bx, f, rfl, hbx, hf, hfa, hb1⟩
  go_wp2_with fail
  refine (Bits_any vb b _ (hb.keep hb1)).mono ?_
  rintro e w2 ⟨by', g, rfl, hby, hg, hgb, hb2⟩
  have hf2 := hf.keep hb2
  have hlt := hf.lt
  have hb12 := below_trans hb1 hb2
  have HFA := Lib.hid hfa
  have HGB := Lib.hid hgb
  clear hfa hgb
  go_wp2_with fail
  go_loopw [7] (fun i wr => ∃ (k : Nat) (h : Nat → Bool), k ≤ 64 ∧ i = .int .i64 k ∧ BoolBlk wr bx h ∧ BoolBlk wr by' g ∧ (∀ j, j < 64 → h j = if j < k then (f j || g j) else f j) ∧ Below w.heap.size w wr) (fun i _ => 64 - (intOf i).toNat)
  case atStart => exact ⟨0, f, by omega, rfl, hf2, hg, fun j _ => by simp, hb12⟩
  case round =>
    obtain ⟨k, h, hk, rfl, hh, hgr, hhf, hbel⟩ := hrel
    have HH := Lib.hid hhf
    clear hhf
    by_cases hlt64 : k < 64
    · have c1 := hh.cell hlt64
      have c2 := hgr.cell hlt64
      have f1 := hh.frozen k
      obtain ⟨u, hu⟩ : ∃ u, h k = u := ⟨_, rfl⟩
      obtain ⟨t, ht⟩ : ∃ t, g k = t := ⟨_, rfl⟩
      rw [hu] at c1
      rw [ht] at c2
      have HU := Lib.hid hu
      have HT := Lib.hid ht
      clear hu ht
      cases u
      all_goals
        go_wp2
        go_roundw
        case rel =>
          refine ⟨k + 1, _, by omega, by go_num, hh.set hlt64 _, hgr.far (p := ⟨bx, k, none⟩) (by intro e; subst e; omega) _, fun j hj => ?_, hbel.setCell (p := ⟨bx, k, none⟩) (by omega) _⟩
          have hfk : f k = h k := by have := HH.out k hlt64; simpa using this.symm
          by_cases hjk : j = k
          · subst hjk
            have : j < j + 1 := by omega
            simp [hfk, HU.out, HT.out]
          · have e1 : (j < k + 1) ↔ j < k := by omega
            simp only [hjk, if_false, HH.out j hj, e1]
        case measure => simp [intOf]; omega
    · have e : k = 64 := by omega
      have HE := Lib.hid e
      clear e
      go_wp2_with fail
      refine (List_any bx h _ hh).mono ?_
      rintro e w4 ⟨u, rfl, hu, hb4⟩
      go_wp2
      go_ret
      refine ⟨u, rfl, ?_, below_trans hbel hb4⟩
      rw [canon_ext (T := h) (fun j hj => by rw [HH.out j hj, HE.out, if_pos hj, HFA.out j hj, HGB.out j hj])]
      exact hu
set_option maxHeartbeats 2000000 in
theorem rMeet_any (va vb : Value) (a b : List Sp) (w : World) (ha : IsSpans w va a) (hb : IsSpans w vb b) :
    Calls Tryd.prog 85 #[va, vb] w fun e w' => ∃ u, e = .returned u ∧ IsSpans w' u (canon fun k => setOf a k && setOf b k) ∧ Below w.heap.size w w' := by
  go_enter Tryd.func85, Tryd.ntmps85
  go_wp2_with fail
  refine (Bits_any va a _ ha).mono ?_
  rintro e w1 ⟨bx, f, rfl, hbx, hf, hfa, hb1⟩
  go_wp2_with fail
  refine (Bits_any vb b _ (hb.keep hb1)).mono ?_
  rintro e w2 ⟨by', g, rfl, hby, hg, hgb, hb2⟩
  have hf2 := hf.keep hb2
  have hlt := hf.lt
  have hb12 := below_trans hb1 hb2
  have HFA := Lib.hid hfa
  have HGB := Lib.hid hgb
  clear hfa hgb
  go_wp2_with fail
  go_loopw [7] (fun i wr => ∃ (k : Nat) (h : Nat → Bool), k ≤ 64 ∧ i = .int .i64 k ∧ BoolBlk wr bx h ∧ BoolBlk wr by' g ∧ (∀ j, j < 64 → h j = if j < k then (f j && g j) else f j) ∧ Below w.heap.size w wr) (fun i _ => 64 - (intOf i).toNat)
  case atStart => exact ⟨0, f, by omega, rfl, hf2, hg, fun j _ => by simp, hb12⟩
  case round =>
    obtain ⟨k, h, hk, rfl, hh, hgr, hhf, hbel⟩ := hrel
    have HH := Lib.hid hhf
    clear hhf
    by_cases hlt64 : k < 64
    · have c1 := hh.cell hlt64
      have c2 := hgr.cell hlt64
      have f1 := hh.frozen k
      obtain ⟨u, hu⟩ : ∃ u, h k = u := ⟨_, rfl⟩
      obtain ⟨t, ht⟩ : ∃ t, g k = t := ⟨_, rfl⟩
      rw [hu] at c1
      rw [ht] at c2
      have HU := Lib.hid hu
      have HT := Lib.hid ht
      clear hu ht
      cases u
      all_goals
        go_wp2
        go_roundw
        case rel =>
          refine ⟨k + 1, _, by omega, by go_num, hh.set hlt64 _, hgr.far (p := ⟨bx, k, none⟩) (by intro e; subst e; omega) _, fun j hj => ?_, hbel.setCell (p := ⟨bx, k, none⟩) (by omega) _⟩
          have hfk : f k = h k := by have := HH.out k hlt64; simpa using this.symm
          by_cases hjk : j = k
          · subst hjk
            have : j < j + 1 := by omega
            simp [hfk, HU.out, HT.out]
          · have e1 : (j < k + 1) ↔ j < k := by omega
            simp only [hjk, if_false, HH.out j hj, e1]
        case measure => simp [intOf]; omega
    · have e : k = 64 := by omega
      have HE := Lib.hid e
      clear e
      go_wp2_with fail
      refine (List_any bx h _ hh).mono ?_
      rintro e w4 ⟨u, rfl, hu, hb4⟩
      go_wp2
      go_ret
      refine ⟨u, rfl, ?_, below_trans hbel hb4⟩
      rw [canon_ext (T := h) (fun j hj => by rw [HH.out j hj, HE.out, if_pos hj, HFA.out j hj, HGB.out j hj])]
      exact hu
set_option maxHeartbeats 2000000 in
theorem rNot_any (va : Value) (a : List Sp) (w : World) (ha : IsSpans w va a) :
    Calls Tryd.prog 125 #[va] w fun e w' => ∃ u, e = .returned u ∧ IsSpans w' u (canon fun k => !setOf a k) ∧ Below w.heap.size w w' := by
  go_enter Tryd.func125, Tryd.ntmps125
  go_wp2_with fail
  refine (Bits_any va a _ ha).mono ?_
  rintro e w1 ⟨bx, f, rfl, hbx, hf, hfa, hb1⟩
  have HFA := Lib.hid hfa
  clear hfa
  go_wp2_with fail
  go_loopw [4] (fun i wr => ∃ (k : Nat) (h : Nat → Bool), k ≤ 64 ∧ i = .int .i64 k ∧ BoolBlk wr bx h ∧ (∀ j, j < 64 → h j = if j < k then !f j else f j) ∧ Below w.heap.size w wr) (fun i _ => 64 - (intOf i).toNat)
  case atStart => exact ⟨0, f, by omega, rfl, hf, fun j _ => by simp, hb1⟩
  case round =>
    obtain ⟨k, h, hk, rfl, hh, hhf, hbel⟩ := hrel
    have HH := Lib.hid hhf
    clear hhf
    by_cases hlt64 : k < 64
    · have c1 := hh.cell hlt64
      have f1 := hh.frozen k
      obtain ⟨u, hu⟩ : ∃ u, h k = u := ⟨_, rfl⟩
      rw [hu] at c1
      have HU := Lib.hid hu
      clear hu
      go_wp2
      go_roundw
      case rel =>
        refine ⟨k + 1, _, by omega, by go_num, hh.set hlt64 _, fun j hj => ?_, hbel.setCell (p := ⟨bx, k, none⟩) (by omega) _⟩
        have hfk : f k = h k := by have := HH.out k hlt64; simpa using this.symm
        by_cases hjk : j = k
        · subst hjk
          simp [hfk, HU.out]
        · have e1 : (j < k + 1) ↔ j < k := by omega
          simp only [hjk, if_false, HH.out j hj, e1]
      case measure => simp [intOf]; omega
    · have e : k = 64 := by omega
      have HE := Lib.hid e
      clear e
      go_wp2_with fail
      refine (List_any bx h _ hh).mono ?_
      rintro e w4 ⟨u, rfl, hu, hb4⟩
      go_wp2
      go_ret
      refine ⟨u, rfl, ?_, below_trans hbel hb4⟩
      rw [canon_ext (T := h) (fun j hj => by rw [HH.out j hj, HE.out, if_pos hj, HFA.out j hj])]
      exact hu
theorem rMinus_any (va vb : Value) (a b : List Sp) (w : World) (ha : IsSpans w va a) (hb : IsSpans w vb b) :
    Calls Tryd.prog 82 #[va, vb] w fun e w' => ∃ u, e = .returned u ∧ IsSpans w' u (canon fun k => setOf a k && !setOf b k) ∧ Below w.heap.size w w' := by
  go_enter Tryd.func82, Tryd.ntmps82
  go_wp2_with fail
  refine (rNot_any vb b _ hb).mono ?_
  rintro e w1 ⟨v1, rfl, h1, hb1⟩
  go_wp2_with fail
  refine (rMeet_any va v1 a _ _ (ha.keep hb1) h1).mono ?_
  rintro e w2 ⟨v2, rfl, h2, hb2⟩
  go_wp2
  go_ret
  refine ⟨v2, rfl, ?_, below_trans hb1 hb2⟩
  rw [canon_ext (T := fun k => setOf a k && setOf (canon fun k => !setOf b k) k) (fun j hj => by rw [setOf_canon _ j hj])]
  exact h2
theorem Valid_any (v : Value) (l : List Sp) (w : World) (hT : Tab w) (h : IsSpans w v l) :
    Calls Tryd.prog 72 #[v] w fun e w' => e = .returned (.bool (decide (l = canon (setOf l)))) ∧ Below w.heap.size w w' := by
  go_enter Tryd.func72, Tryd.ntmps72
  go_wp2_with fail
  refine (Of_any v l _ hT h).mono ?_
  rintro e w1 ⟨v1, rfl, ⟨h1, -⟩, hb1⟩
  go_wp2_with fail
  refine (Equal_any v v1 l _ _ (h.keep hb1) h1).mono ?_
  rintro e w2 ⟨rfl, hb2⟩
  go_wp2
  go_ret
  exact ⟨rfl, below_trans hb1 hb2⟩
theorem rValid_any (v : Value) (l : List Sp) (w : World) (h : IsSpans w v l) :
    Calls Tryd.prog 110 #[v] w fun e w' => e = .returned (.bool (decide (l = canon (setOf l)))) ∧ Below w.heap.size w w' := by
  go_enter Tryd.func110, Tryd.ntmps110
  go_wp2_with fail
  refine (rOf_any v l _ h).mono ?_
  rintro e w1 ⟨v1, rfl, h1, hb1⟩
  go_wp2_with fail
  refine (Same_any v v1 l _ _ (h.keep hb1) h1).mono ?_
  rintro e w2 ⟨rfl, hb2⟩
  go_wp2
  go_ret
  exact ⟨rfl, below_trans hb1 hb2⟩
theorem rHas_any (va : Value) (a : List Sp) (k : Int) (w : World) (ha : IsSpans w va a) :
    Calls Tryd.prog 89 #[va, .int .i64 k] w fun e w' => e = .returned (.bool (inSet a k)) ∧ Below w.heap.size w w' := by
  by_cases h0 : 0 ≤ k
  · by_cases h1 : k < 64
    · obtain ⟨n, rfl⟩ := Int.eq_ofNat_of_zero_le h0
      have E := Lib.hid (show inSet a (n : Int) = setOf a n from by simp [inSet, setOf]; omega)
      go_enter Tryd.func89, Tryd.ntmps89
      go_wp2_with (first | (go_at_call 124; refine (Bits_any va a _ ha).mono ?_; rintro e w1 ⟨b, f, rfl, hb, hblk, hf, hb1⟩; have c1 := hblk.cell (k := n) (by omega); have HF := Lib.hid hf; clear hf))
      go_ret
      exact ⟨by rw [E.out, ← HF.out n (by omega)]; rfl, hb1⟩
    · have E := Lib.hid (show inSet a k = false from by simp [inSet]; omega)
      go_enter Tryd.func89, Tryd.ntmps89
      go_wp2
      go_ret
      exact ⟨by rw [E.out]; rfl, Below.refl _ _⟩
  · have E := Lib.hid (show inSet a k = false from by simp [inSet]; omega)
    go_enter Tryd.func89, Tryd.ntmps89
    go_wp2
    go_ret
    exact ⟨by rw [E.out]; rfl, Below.refl _ _⟩
/-- How many of the first k moments are in the set. -/
def cntTo (f : Nat → Bool) (k : Nat) : Nat := (List.range k).countP f
theorem cntTo_succ (f : Nat → Bool) (k : Nat) : cntTo f (k + 1) = cntTo f k + if f k = true then 1 else 0 := by
  unfold cntTo
  rw [List.range_succ, List.countP_append]; simp [List.countP_cons]
theorem cntTo_le (f : Nat → Bool) (k : Nat) : cntTo f k ≤ k := by
  have := List.countP_le_length (p := f) (l := List.range k)
  simpa [cntTo] using this
theorem cntTo_ext {f g : Nat → Bool} (h : ∀ k, k < 64 → f k = g k) : cntTo f 64 = cntTo g 64 := by
  unfold cntTo
  exact List.countP_congr fun k hk => by rw [h k (by simpa using hk)]
end Go.Proofs.YtdibijhaiaiifaaDoor
