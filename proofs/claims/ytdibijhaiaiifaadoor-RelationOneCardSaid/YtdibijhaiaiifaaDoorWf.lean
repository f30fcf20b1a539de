/- The walks of the reference: one bit for each moment. -/
import Derived.Test.YtdibijhaiaiifaaDoorWe
namespace Go.Proofs.YtdibijhaiaiifaaDoor
open Go.RowKit
/-- Block b holds the 64 bits f. -/
def BoolBlk (w : World) (b : Nat) (f : Nat → Bool) : Prop := ∃ cs : Array Value, w.heap[b]? = some (.cells cs 4 (0, 0)) ∧ cs.size = 64 ∧ ∀ k, k < 64 → cs[k]? = some (.bool (f k))
def zeroBools : Array Value := madeCells #[.bool false] 64
theorem zeroBools_get : zeroBools.size = 64 ∧ ∀ k, k < 64 → zeroBools[k]? = some (.bool false) := by
  refine ⟨by kernel_rfl, fun k hk => ?_⟩
  have e : zeroBools = Array.replicate 64 (.bool false) := by kernel_rfl
  rw [e, Array.getElem?_replicate, if_pos hk]
theorem run_make64 (w : World) : (Instr.makeSlice 122 (.int .i64 64) (.int .i64 64)).run Tryd.prog w = .ok (.slice (some ⟨w.heap.size, 0, none⟩) 64 64) (w.alloc (.cells zeroBools 4)) := by kernel_rfl
section
variable {w w' : World} {b : Nat} {f : Nat → Bool}
theorem BoolBlk.lt (h : BoolBlk w b f) : b < w.heap.size := by obtain ⟨cs, h, _⟩ := h; exact (Array.getElem?_eq_some_iff.1 h).1
theorem BoolBlk.cell (h : BoolBlk w b f) {k : Nat} (hk : k < 64) : w.cell? ⟨b, k, none⟩ = some (.bool (f k)) := by
  obtain ⟨cs, h, hs, hc⟩ := h
  rw [cell_of_row w b k cs 4 (0, 0) h, hc k hk]
theorem BoolBlk.frozen (h : BoolBlk w b f) (k : Nat) : w.frozen? ⟨b, k, none⟩ = false := by
  obtain ⟨cs, h, _⟩ := h
  simp [World.frozen?, h]
theorem BoolBlk.below {B : Nat} (h : BoolBlk w b f) (hb : Below B w w') (hl : b < B) : BoolBlk w' b f := by
  obtain ⟨cs, h, r⟩ := h
  exact ⟨cs, (hb.block b hl).trans h, r⟩
theorem BoolBlk.keep (h : BoolBlk w b f) (hb : Below w.heap.size w w') : BoolBlk w' b f := h.below hb h.lt
theorem BoolBlk.set (h : BoolBlk w b f) {k : Nat} (_ : k < 64) (x : Bool) : BoolBlk (w.setCell ⟨b, k, none⟩ (.bool x)) b (fun j => if j = k then x else f j) := by
  obtain ⟨cs, h, hs, hc⟩ := h
  refine ⟨cs.setIfInBounds k (.bool x), by simp [World.setCell, Array.getElem?_modify, h], by simp [hs], fun j hj => ?_⟩
  rw [Array.getElem?_setIfInBounds]
  by_cases hjk : k = j
  · subst hjk; simp [hs]; omega
  · have hne : ¬ j = k := fun e => hjk e.symm
    simp [hjk, hc j hj, hne]
theorem BoolBlk.new (w : World) : BoolBlk (w.alloc (.cells zeroBools 4)) w.heap.size (fun _ => false) := by
  obtain ⟨h1, h2⟩ := zeroBools_get
  exact ⟨zeroBools, World.alloc_heap_new w _, h1, h2⟩
end
theorem no_span (m : Int) {j : Nat} : (decide (m ≤ (j : Int)) && decide ((j : Int) < m)) = false := by simp
theorem step_span (st : Int) (m j : Nat) (g r : Bool) (h : g = (r || (decide (st ≤ (j : Int)) && decide ((j : Int) < (m : Int))))) (hst : st ≤ (m : Int)) :
    (if j = m then true else g) = (r || (decide (st ≤ (j : Int)) && decide ((j : Int) < (m : Int) + 1))) := by
  subst h
  by_cases hj : j = m
  · subst hj
    have : decide (st ≤ (j : Int)) = true := by simpa using hst
    have h2 : decide ((j : Int) < (j : Int) + 1) = true := by simp; omega
    simp [this, h2]
  · rw [if_neg hj]
    congr 2
    rw [decide_eq_decide]; omega
theorem end_span (st m p q : Int) (j : Nat) (r : Bool) (hj : j < 64) (hst : (st = 0 ∧ p < 0) ∨ (st = p ∧ 0 ≤ p)) (h : (m = st ∧ (q ≤ m ∨ 64 ≤ m)) ∨ (m ≤ q ∧ m ≤ 64 ∧ (q ≤ m ∨ 64 ≤ m))) :
    (r || (decide (st ≤ (j : Int)) && decide ((j : Int) < m))) = (r || (decide (p ≤ (j : Int)) && decide ((j : Int) < q))) := by
  congr 1
  rw [← Bool.decide_and, ← Bool.decide_and, decide_eq_decide]; omega
theorem setOf_take (l : List Sp) (k : Nat) (h : k < l.length) (j : Nat) : setOf (l.take (k + 1)) j = (setOf (l.take k) j || (decide ((l.getD k (0, 0)).1 ≤ (j : Int)) && decide ((j : Int) < (l.getD k (0, 0)).2))) := by
  rw [setOf, setOf, List.take_succ_eq_append_getElem h, has_append, has_cons, has_nil, Bool.or_false]
  simp [h]
set_option maxHeartbeats 2000000 in
theorem Bits_any (v : Value) (l : List Sp) (w : World) (h : IsSpans w v l) :
    Calls Tryd.prog 124 #[v] w fun e w' => ∃ b f, e = .returned (.slice (some ⟨b, 0, none⟩) 64 64) ∧ w.heap.size ≤ b ∧ BoolBlk w' b f ∧ (∀ k, k < 64 → f k = setOf l k) ∧ Below w.heap.size w w' := by
  obtain ⟨a, c, rfl, hs, hm⟩ := h
  have hmk := run_make64
  go_enter Tryd.func124, Tryd.ntmps124
  go_wp2
  go_loopw [4, 5] (fun i _ wr => ∃ (k : Nat) (f : Nat → Bool), k ≤ l.length ∧ i = .int .i64 k ∧ BoolBlk wr w.heap.size f ∧ (∀ j, j < 64 → f j = setOf (l.take k) j) ∧ Below w.heap.size w wr) (fun i _ _ => l.length - (intOf i).toNat)
  case atStart => exact ⟨0, _, Nat.zero_le _, rfl, BoolBlk.new w, fun j _ => by simp [setOf, has], (Below.refl _ _).alloc (Nat.le_refl _) _⟩
  case round =>
    obtain ⟨k, f, hk, rfl, hblk, hf, hb⟩ := hrel
    by_cases hlt : k < l.length
    · obtain ⟨b, off, rfl, hcs⟩ := (hs.keep hb).at_ hlt
      obtain ⟨c1, c2⟩ := hcs k hlt
      clear hcs
      obtain ⟨s, hs'⟩ : ∃ s, l.getD k (0, 0) = s := ⟨_, rfl⟩
      rw [hs'] at c1 c2
      have HS := Lib.hid hs'
      have HF := Lib.hid hf
      clear hs' hf
      obtain ⟨p, q⟩ := s
      have hp0 : p < 0 ∨ 0 ≤ p := by omega
      rcases hp0 with hp0 | hp0
      · have hst : 0 ≤ (0 : Int) := by omega
        go_wp2
        obtain ⟨wo, rfl⟩ : ∃ wo : World, wo = wr := ⟨_, rfl⟩
        go_loopw [5] (fun i wr => ∃ (m : Int) (g : Nat → Bool), i = .int .i64 m ∧ (0 : Int) ≤ m ∧ (m = (0 : Int) ∨ (m ≤ q ∧ m ≤ 64)) ∧ BoolBlk wr w.heap.size g ∧ (∀ j, j < 64 → g j = (setOf (l.take k) j || (decide ((0 : Int) ≤ (j : Int)) && decide ((j : Int) < m)))) ∧ Below w.heap.size w wr) (fun i _ => (64 - intOf i).toNat)
        case atStart => exact ⟨_, f, rfl, Int.le_refl _, .inl rfl, hblk, fun j hj => by rw [HF.out j hj, no_span (0 : Int), Bool.or_false], hb⟩
        case round =>
          obtain ⟨m, g, rfl, hm1, hm2, hg, hgf, hbel⟩ := hrel
          have HG := Lib.hid hgf
          have HM := Lib.hid hm2
          clear hgf hm2
          have c2' : wr.cell? ⟨b, off + k * 2 + 1, none⟩ = some (.int .i64 q) := by
            obtain ⟨bb, oo, e, hcs⟩ := (hs.keep hbel).at_ hlt
            have e1 : b = bb := by injection e with e; injection e
            have e2 : off = oo := by injection e with e; injection e
            subst e1; subst e2
            have := (hcs k hlt).2
            rw [HS.out] at this; exact this
          by_cases h1 : m < q
          · by_cases h2 : m < 64
            · obtain ⟨mm, rfl⟩ := Int.eq_ofNat_of_zero_le (show 0 ≤ m by omega)
              have hcc := hg.cell (k := mm) (by omega)
              have hff := hg.frozen mm
              go_wp2
              go_roundw
              case rel =>
                refine ⟨(mm : Int) + 1, _, rfl, by omega, .inr ⟨by omega, by omega⟩, hg.set (by omega) true, fun j hj => ?_, hbel.setCell (p := ⟨w.heap.size, mm, none⟩) (Nat.le_refl _) _⟩
                exact step_span (0 : Int) mm j (g j) _ (HG.out j hj) (by omega)
              case measure => simp [intOf]; omega
            · go_wp2
              go_roundw
              case rel =>
                refine ⟨k + 1, g, by omega, by go_num, hg, fun j hj => ?_, hbel⟩
                rw [HG.out j hj, setOf_take l k hlt, HS.out]
                exact end_span (0 : Int) m p q j _ hj (by omega) (by have := HM.out; omega)
              case measure => simp [intOf]; omega
          · go_wp2
            go_roundw
            case rel =>
              refine ⟨k + 1, g, by omega, by go_num, hg, fun j hj => ?_, hbel⟩
              rw [HG.out j hj, setOf_take l k hlt, HS.out]
              exact end_span (0 : Int) m p q j _ hj (by omega) (by have := HM.out; omega)
            case measure => simp [intOf]; omega
      · have hst : 0 ≤ p := by omega
        go_wp2
        obtain ⟨wo, rfl⟩ : ∃ wo : World, wo = wr := ⟨_, rfl⟩
        go_loopw [5] (fun i wr => ∃ (m : Int) (g : Nat → Bool), i = .int .i64 m ∧ p ≤ m ∧ (m = p ∨ (m ≤ q ∧ m ≤ 64)) ∧ BoolBlk wr w.heap.size g ∧ (∀ j, j < 64 → g j = (setOf (l.take k) j || (decide (p ≤ (j : Int)) && decide ((j : Int) < m)))) ∧ Below w.heap.size w wr) (fun i _ => (64 - intOf i).toNat)
        case atStart => exact ⟨_, f, rfl, Int.le_refl _, .inl rfl, hblk, fun j hj => by rw [HF.out j hj, no_span p, Bool.or_false], hb⟩
        case round =>
          obtain ⟨m, g, rfl, hm1, hm2, hg, hgf, hbel⟩ := hrel
          have HG := Lib.hid hgf
          have HM := Lib.hid hm2
          clear hgf hm2
          have c2' : wr.cell? ⟨b, off + k * 2 + 1, none⟩ = some (.int .i64 q) := by
            obtain ⟨bb, oo, e, hcs⟩ := (hs.keep hbel).at_ hlt
            have e1 : b = bb := by injection e with e; injection e
            have e2 : off = oo := by injection e with e; injection e
            subst e1; subst e2
            have := (hcs k hlt).2
            rw [HS.out] at this; exact this
          by_cases h1 : m < q
          · by_cases h2 : m < 64
            · obtain ⟨mm, rfl⟩ := Int.eq_ofNat_of_zero_le (show 0 ≤ m by omega)
              have hcc := hg.cell (k := mm) (by omega)
              have hff := hg.frozen mm
              go_wp2
              go_roundw
              case rel =>
                refine ⟨(mm : Int) + 1, _, rfl, by omega, .inr ⟨by omega, by omega⟩, hg.set (by omega) true, fun j hj => ?_, hbel.setCell (p := ⟨w.heap.size, mm, none⟩) (Nat.le_refl _) _⟩
                exact step_span p mm j (g j) _ (HG.out j hj) (by omega)
              case measure => simp [intOf]; omega
            · go_wp2
              go_roundw
              case rel =>
                refine ⟨k + 1, g, by omega, by go_num, hg, fun j hj => ?_, hbel⟩
                rw [HG.out j hj, setOf_take l k hlt, HS.out]
                exact end_span p m p q j _ hj (by omega) (by have := HM.out; omega)
              case measure => simp [intOf]; omega
          · go_wp2
            go_roundw
            case rel =>
              refine ⟨k + 1, g, by omega, by go_num, hg, fun j hj => ?_, hbel⟩
              rw [HG.out j hj, setOf_take l k hlt, HS.out]
              exact end_span p m p q j _ hj (by omega) (by have := HM.out; omega)
            case measure => simp [intOf]; omega
    · have e : k = l.length := by omega
      subst e
      rw [List.take_length] at hf
      go_wp2
      go_ret
      exact ⟨_, f, rfl, Nat.le_refl _, hblk, hf, hb⟩
end Go.Proofs.YtdibijhaiaiifaaDoor
