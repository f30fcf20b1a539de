/- Parts Wf, Wg, Wh, Rel: words, walks and laws that the claims of this seat share. -/
import Derived.Test.YtdibijhaiaiifaaDoorJ2
import Derived.Test.YtdibijhaiaiifaaDoorJ1
/- The walks of the reference: one bit for each moment. -/
namespace Go.Proofs.YtdibijhaiaiifaaDoor
open Go.RowKit
/-- Block b holds the 64 bits f. -/
def BoolBlk (w : World) (b : Nat) (f : Nat → Bool) : Prop := ∃ cs : Array Value, w.heap[b]? = some (.cells cs 4 (0, 0)) ∧ cs.size = 64 ∧ ∀ k, k < 64 → cs[k]? = some (.bool (f k))
def zeroBools : Array Value := madeCells #[.bool false] 64
theorem zeroBools_get : zeroBools.size = 64 ∧ ∀ k, k < 64 → zeroBools[k]? = some (.bool false) := by
  refine ⟨by kernel_rfl, fun k hk => ?_⟩
  have e : zeroBools = Array.replicate 64 (.bool false) := by kernel_rfl
  rw [e, Array.getElem?_replicate, if_pos hk]
theorem run_make64 (w : World) : (Instr.makeSlice 122 (.int .i64 64) (.int .i64 64)).run Tryd.prog w = .ok (.slice (some ⟨w.heap.size, 0, none⟩) 64 64) (w.alloc (.cells zeroBools 4)) := by kernel_rfl
section
variable {w w' : World} {b : Nat} {f : Nat → Bool}
theorem BoolBlk.lt (h : BoolBlk w b f) : b < w.heap.size := by obtain ⟨cs, h, _⟩ := h; exact (Array.getElem?_eq_some_iff.1 h).1
theorem BoolBlk.cell (h : BoolBlk w b f) {k : Nat} (hk : k < 64) : w.cell? ⟨b, k, none⟩ = some (.bool (f k)) := by
  obtain ⟨cs, h, hs, hc⟩ := h
  rw [cell_of_row w b k cs 4 (0, 0) h, hc k hk]
theorem BoolBlk.frozen (h : BoolBlk w b f) (k : Nat) : w.frozen? ⟨b, k, none⟩ = false := by
  obtain ⟨cs, h, _⟩ := h
  simp [World.frozen?, h]
theorem BoolBlk.below {B : Nat} (h : BoolBlk w b f) (hb : Below B w w') (hl : b < B) : BoolBlk w' b f := by
  obtain ⟨cs, h, r⟩ := h
  exact ⟨cs, (hb.block b hl).trans h, r⟩
theorem BoolBlk.keep (h : BoolBlk w b f) (hb : Below w.heap.size w w') : BoolBlk w' b f := h.below hb h.lt
theorem BoolBlk.set (h : BoolBlk w b f) {k : Nat} (_ : k < 64) (x : Bool) : BoolBlk (w.setCell ⟨b, k, none⟩ (.bool x)) b (fun j => if j = k then x else f j) := by
  obtain ⟨cs, h, hs, hc⟩ := h
  refine ⟨cs.setIfInBounds k (.bool x), by simp [World.setCell, Array.getElem?_modify, h], by simp [hs], fun j hj => ?_⟩
  rw [Array.getElem?_setIfInBounds]
  by_cases hjk : k = j
  · subst hjk; simp [hs]; omega
  · have hne : ¬ j = k := fun e => hjk e.symm
    simp [hjk, hc j hj, hne]
theorem BoolBlk.new (w : World) : BoolBlk (w.alloc (.cells zeroBools 4)) w.heap.size (fun _ => false) := by
  obtain ⟨h1, h2⟩ := zeroBools_get
  exact ⟨zeroBools, World.alloc_heap_new w _, h1, h2⟩
end
theorem no_span (m : Int) {j : Nat} : (decide (m ≤ (j : Int)) && decide ((j : Int) < m)) = false := by simp
theorem step_span (st : Int) (m j : Nat) (g r : Bool) (h : g = (r || (decide (st ≤ (j : Int)) && decide ((j : Int) < (m : Int))))) (hst : st ≤ (m : Int)) :
    (if j = m then true else g) = (r || (decide (st ≤ (j : Int)) && decide ((j : Int) < (m : Int) + 1))) := by
  subst h
  by_cases hj : j = m
  · subst hj
    have : decide (st ≤ (j : Int)) = true := by simpa using hst
    have h2 : decide ((j : Int) < (j : Int) + 1) = true := by simp; omega
    simp [this, h2]
  · rw [if_neg hj]
    congr 2
    rw [decide_eq_decide]; omega
theorem end_span (st m p q : Int) (j : Nat) (r : Bool) (hj : j < 64) (hst : (st = 0 ∧ p < 0) ∨ (st = p ∧ 0 ≤ p)) (h : (m = st ∧ (q ≤ m ∨ 64 ≤ m)) ∨ (m ≤ q ∧ m ≤ 64 ∧ (q ≤ m ∨ 64 ≤ m))) :
    (r || (decide (st ≤ (j : Int)) && decide ((j : Int) < m))) = (r || (decide (p ≤ (j : Int)) && decide ((j : Int) < q))) := by
  congr 1
  rw [← Bool.decide_and, ← Bool.decide_and, decide_eq_decide]; omega
theorem setOf_take (l : List Sp) (k : Nat) (h : k < l.length) (j : Nat) : setOf (l.take (k + 1)) j = (setOf (l.take k) j || (decide ((l.getD k (0, 0)).1 ≤ (j : Int)) && decide ((j : Int) < (l.getD k (0, 0)).2))) := by
  rw [setOf, setOf, List.take_succ_eq_append_getElem h, has_append, has_cons, has_nil, Bool.or_false]
  simp [h]
set_option maxHeartbeats 2000000 in
theorem Bits_any (v : Value) (l : List Sp) (w : World) (h : IsSpans w v l) :
    Calls Tryd.prog 124 #[v] w fun e w' => ∃ b f, e = .returned (.slice (some ⟨b, 0, none⟩) 64 64) ∧ w.heap.size ≤ b ∧ BoolBlk w' b f ∧ (∀ k, k < 64 → f k = setOf l k) ∧ Below w.heap.size w w' := by
  obtain ⟨a, c, rfl, hs, hm⟩ := h
  have hmk := run_make64
  go_enter Tryd.func124, Tryd.ntmps124
  go_wp2
  go_loopw [4, 5] (fun i _ wr => ∃ (k : Nat) (f : Nat → Bool), k ≤ l.length ∧ i = .int .i64 k ∧ BoolBlk wr w.heap.size f ∧ (∀ j, j < 64 → f j = setOf (l.take k) j) ∧ Below w.heap.size w wr) (fun i _ _ => l.length - (intOf i).toNat)
  case atStart => exact ⟨0, _, Nat.zero_le _, rfl, BoolBlk.new w, fun j _ => by simp [setOf, has], (Below.refl _ _).alloc (Nat.le_refl _) _⟩
  case round =>
    obtain ⟨k, f, hk, rfl, hblk, hf, hb⟩ := hrel
    by_cases hlt : k < l.length
    · obtain ⟨b, off, rfl, hcs⟩ := (hs.keep hb).at_ hlt
      obtain ⟨c1, c2⟩ := hcs k hlt
      clear hcs
      obtain ⟨s, hs'⟩ : ∃ s, l.getD k (0, 0) = s := ⟨_, rfl⟩
      rw [hs'] at c1 c2
      have HS := Lib.hid hs'
      have HF := Lib.hid hf
      clear hs' hf
      obtain ⟨p, q⟩ := s
      have hp0 : p < 0 ∨ 0 ≤ p := by omega
      rcases hp0 with hp0 | hp0
      · have hst : 0 ≤ (0 : Int) := by omega
        go_wp2
        obtain ⟨wo, rfl⟩ : ∃ wo : World, wo = wr := ⟨_, rfl⟩
        go_loopw [5] (fun i wr => ∃ (m : Int) (g : Nat → Bool), i = .int .i64 m ∧ (0 : Int) ≤ m ∧ (m = (0 : Int) ∨ (m ≤ q ∧ m ≤ 64)) ∧ BoolBlk wr w.heap.size g ∧ (∀ j, j < 64 → g j = (setOf (l.take k) j || (decide ((0 : Int) ≤ (j : Int)) && decide ((j : Int) < m)))) ∧ Below w.heap.size w wr) (fun i _ => (64 - intOf i).toNat)
        case atStart => exact ⟨_, f, rfl, Int.le_refl _, .inl rfl, hblk, fun j hj => by rw [HF.out j hj, no_span (0 : Int), Bool.or_false], hb⟩
        case round =>
          obtain ⟨m, g, rfl, hm1, hm2, hg, hgf, hbel⟩ := hrel
          have HG := Lib.hid hgf
          have HM := Lib.hid hm2
          clear hgf hm2
          have c2' : wr.cell? ⟨b, off + k * 2 + 1, none⟩ = some (.int .i64 q) := by
            obtain ⟨bb, oo, e, hcs⟩ := (hs.keep hbel).at_ hlt
            have e1 : b = bb := by injection e with e; injection e
            have e2 : off = oo := by injection e with e; injection e
            subst e1; subst e2
            have := (hcs k hlt).2
            rw [HS.out] at this; exact this
          by_cases h1 : m < q
          · by_cases h2 : m < 64
            · obtain ⟨mm, rfl⟩ := Int.eq_ofNat_of_zero_le (show 0 ≤ m by omega)
              have hcc := hg.cell (k := mm) (by omega)
              have hff := hg.frozen mm
              go_wp2
              go_roundw
              case rel =>
                refine ⟨(mm : Int) + 1, _, rfl, by omega, .inr ⟨by omega, by omega⟩, hg.set (by omega) true, fun j hj => ?_, hbel.setCell (p := ⟨w.heap.size, mm, none⟩) (Nat.le_refl _) _⟩
                exact step_span (0 : Int) mm j (g j) _ (HG.out j hj) (by omega)
              case measure => simp [intOf]; omega
            · go_wp2
              go_roundw
              case rel =>
                refine ⟨k + 1, g, by omega, by go_num, hg, fun j hj => ?_, hbel⟩
                rw [HG.out j hj, setOf_take l k hlt, HS.out]
                exact end_span (0 : Int) m p q j _ hj (by omega) (by have := HM.out; omega)
              case measure => simp [intOf]; omega
          · go_wp2
            go_roundw
            case rel =>
              refine ⟨k + 1, g, by omega, by go_num, hg, fun j hj => ?_, hbel⟩
              rw [HG.out j hj, setOf_take l k hlt, HS.out]
              exact end_span (0 : Int) m p q j _ hj (by omega) (by have := HM.out; omega)
            case measure => simp [intOf]; omega
      · have hst : 0 ≤ p := by omega
        go_wp2
        obtain ⟨wo, rfl⟩ : ∃ wo : World, wo = wr := ⟨_, rfl⟩
        go_loopw [5] (fun i wr => ∃ (m : Int) (g : Nat → Bool), i = .int .i64 m ∧ p ≤ m ∧ (m = p ∨ (m ≤ q ∧ m ≤ 64)) ∧ BoolBlk wr w.heap.size g ∧ (∀ j, j < 64 → g j = (setOf (l.take k) j || (decide (p ≤ (j : Int)) && decide ((j : Int) < m)))) ∧ Below w.heap.size w wr) (fun i _ => (64 - intOf i).toNat)
        case atStart => exact ⟨_, f, rfl, Int.le_refl _, .inl rfl, hblk, fun j hj => by rw [HF.out j hj, no_span p, Bool.or_false], hb⟩
        case round =>
          obtain ⟨m, g, rfl, hm1, hm2, hg, hgf, hbel⟩ := hrel
          have HG := Lib.hid hgf
          have HM := Lib.hid hm2
          clear hgf hm2
          have c2' : wr.cell? ⟨b, off + k * 2 + 1, none⟩ = some (.int .i64 q) := by
            obtain ⟨bb, oo, e, hcs⟩ := (hs.keep hbel).at_ hlt
            have e1 : b = bb := by injection e with e; injection e
            have e2 : off = oo := by injection e with e; injection e
            subst e1; subst e2
            have := (hcs k hlt).2
            rw [HS.out] at this; exact this
          by_cases h1 : m < q
          · by_cases h2 : m < 64
            · obtain ⟨mm, rfl⟩ := Int.eq_ofNat_of_zero_le (show 0 ≤ m by omega)
              have hcc := hg.cell (k := mm) (by omega)
              have hff := hg.frozen mm
              go_wp2
              go_roundw
              case rel =>
                refine ⟨(mm : Int) + 1, _, rfl, by omega, .inr ⟨by omega, by omega⟩, hg.set (by omega) true, fun j hj => ?_, hbel.setCell (p := ⟨w.heap.size, mm, none⟩) (Nat.le_refl _) _⟩
                exact step_span p mm j (g j) _ (HG.out j hj) (by omega)
              case measure => simp [intOf]; omega
            · go_wp2
              go_roundw
              case rel =>
                refine ⟨k + 1, g, by omega, by go_num, hg, fun j hj => ?_, hbel⟩
                rw [HG.out j hj, setOf_take l k hlt, HS.out]
                exact end_span p m p q j _ hj (by omega) (by have := HM.out; omega)
              case measure => simp [intOf]; omega
          · go_wp2
            go_roundw
            case rel =>
              refine ⟨k + 1, g, by omega, by go_num, hg, fun j hj => ?_, hbel⟩
              rw [HG.out j hj, setOf_take l k hlt, HS.out]
              exact end_span p m p q j _ hj (by omega) (by have := HM.out; omega)
            case measure => simp [intOf]; omega
    · have e : k = l.length := by omega
      subst e
      rw [List.take_length] at hf
      go_wp2
      go_ret
      exact ⟨_, f, rfl, Nat.le_refl _, hblk, hf, hb⟩
end Go.Proofs.YtdibijhaiaiifaaDoor
/- The walk of the reference's List. -/
namespace Go.Proofs.YtdibijhaiaiifaaDoor
open Go.RowKit
theorem canon_split (S : Nat → Bool) (out : List Sp) (n m : Nat) (fr : Int) (h : canon S = out ++ runs S n m fr) : out.length ≤ 32 := by
  have := canon_le S
  rw [h, List.length_append] at this; omega
theorem own_from {w : World} {base : Nat} {e : TypeId} {size n : Nat} {v : Value} {xs : List Value} (h : w.ownsRow base e size v n xs) : ∀ k, v.ownBlock = some k → base ≤ k := by
  intro k hk
  rcases h.2 with ⟨rfl, _⟩ | ⟨g, cap, cur, rfl, hg, _⟩
  · simp [Value.ownBlock] at hk
  · have : g = k := by simpa [Value.ownBlock] using hk
    omega
set_option maxRecDepth 100000 in
set_option maxHeartbeats 4000000 in
theorem List_any (b : Nat) (f : Nat → Bool) (w : World) (h : BoolBlk w b f) :
    Calls Tryd.prog 123 #[.slice (some ⟨b, 0, none⟩) 64 64] w fun e w' => ∃ v, e = .returned v ∧ IsSpans w' v (canon f) ∧ Below w.heap.size w w' := by
  obtain ⟨i0, hi, hz0', hz1', hz2⟩ := info_parts Tryd.info86
  go_enter Tryd.func123, Tryd.ntmps123
  go_wp2
  go_loopw [3, 4, 5] (fun v fr m wr => ∃ (k : Nat) (out : List Sp) (z : Int), k ≤ 65 ∧ m = .int .i64 k ∧ fr = .int .i64 z ∧ z < k ∧ wr.ownsRow w.heap.size 86 2 v out.length (flat out) ∧ canon f = out ++ runs f (65 - k) k z ∧ Below w.heap.size w wr) (fun _ _ m _ => 65 - (intOf m).toNat)
  case atStart => exact ⟨0, [], -1, by omega, rfl, rfl, by omega, World.ownsRow_nil _ _ _ _, rfl, Below.refl _ _⟩
  case round =>
    obtain ⟨k, out, z, hk, rfl, rfl, hz, hown, hc, hb⟩ := hrel
    have hol := canon_split _ _ _ _ _ hc
    have HC := Lib.hid hc
    clear hc
    by_cases h65 : k = 65
    · have h3 : 64 < k := by omega
      have HK := Lib.hid h65
      clear h65
      go_wp2
      go_ret
      refine ⟨_, rfl, ?_, hb⟩
      rw [HC.out, HK.out]
      simpa [runs] using IsSpans.of_owns hown (by omega)
    · have hk65 : k < 65 := by omega
      have e65 : 65 - k = (64 - k) + 1 := by omega
      have E65 := Lib.hid e65
      clear e65 h65
      by_cases hin : k < 64 ∧ f k = true
      · obtain ⟨h64, hf⟩ := hin
        have hcell : wr.cell? ⟨b, k, none⟩ = some (.bool true) := by rw [← hf]; exact cell_keep hb (h.cell h64)
        have HF := Lib.hid hf
        clear hf
        by_cases hz0 : z < 0
        · go_wp2
          go_roundw
          case rel => exact ⟨k + 1, out, k, by omega, by go_num, rfl, by omega, hown, by rw [HC.out, E65.out, runs_in_new f _ _ _ h64 HF.out hz0, show 65 - (k + 1) = 64 - k from by omega], hb⟩
          case measure => simp [intOf]; omega
        · have hz1 : 0 ≤ z := by omega
          go_wp2
          go_roundw
          case rel => exact ⟨k + 1, out, z, by omega, by go_num, rfl, by omega, hown, by rw [HC.out, E65.out, runs_in_on f _ _ _ h64 HF.out hz1, show 65 - (k + 1) = 64 - k from by omega], hb⟩
          case measure => simp [intOf]; omega
      · have hno : (decide (k < 64) && f k) = false := by
          by_cases h64 : k < 64
          · simp [h64]; cases hh : f k
            · rfl
            · exact absurd ⟨h64, hh⟩ hin
          · simp [h64]
        have HN := Lib.hid hno
        clear hno
        by_cases h64 : k < 64
        · have hcell : wr.cell? ⟨b, k, none⟩ = some (.bool false) := by
            have : f k = false := by have := HN.out; simpa [h64] using this
            rw [← this]; exact cell_keep hb (h.cell h64)
          clear hin
          by_cases hz0 : z < 0
          · go_wp2
            go_roundw
            case rel => exact ⟨k + 1, out, z, by omega, by go_num, rfl, by omega, hown, by rw [HC.out, E65.out, runs_out f _ _ _ HN.out hz0, show 65 - (k + 1) = 64 - k from by omega], hb⟩
            case measure => simp [intOf]; omega
          · have hz1 : 0 ≤ z := by omega
            go_wp2_with (at_builtin; refine wpList_append_own _ rfl _ _ 26 rfl w.heap.size 86 i0 (.agg #[.int .i64 0, .int .i64 0]) 2 16 Tryd.underlying26 hi hz0' hz1' hz2 rfl (by decide) _ _ _ rfl (hown.alloc _) ⟨wr.heap.size, 0, none⟩ 1 1 [.int .i64 z, .int .i64 k] rfl rfl (cells_two_new _ _ _ _) (by simp [Value.oneCell']) (by unfold maxLen; omega) (by omega) (by have := hb.size; simp; omega) ?_; intro v' w1 hown' hgrow _)
            have hb2 : Below w.heap.size w w1 := (hb.alloc hb.size _).grown hgrow (by have := hb.size; simp; omega) (own_from hown)
            go_wp2
            go_roundw
            case rel => exact ⟨k + 1, out ++ [(z, (k : Int))], -1, by omega, by go_num, rfl, by omega, by simpa [flat_append, flat] using hown', by rw [HC.out, E65.out, runs_end f _ _ _ HN.out hz1, List.append_assoc, show 65 - (k + 1) = 64 - k from by omega]; rfl, hb2⟩
            case measure => simp [intOf]; omega
        · have h64e : k = 64 := by omega
          subst h64e
          clear hin h64
          by_cases hz0 : z < 0
          · go_wp2
            go_roundw
            case rel => exact ⟨65, out, z, by omega, rfl, rfl, by omega, hown, by rw [HC.out, E65.out, runs_out f _ _ _ HN.out hz0], hb⟩
            case measure => simp [intOf]
          · have hz1 : 0 ≤ z := by omega
            go_wp2_with (at_builtin; refine wpList_append_own _ rfl _ _ 26 rfl w.heap.size 86 i0 (.agg #[.int .i64 0, .int .i64 0]) 2 16 Tryd.underlying26 hi hz0' hz1' hz2 rfl (by decide) _ _ _ rfl (hown.alloc _) ⟨wr.heap.size, 0, none⟩ 1 1 [.int .i64 z, .int .i64 64] rfl rfl (cells_two_new _ _ _ _) (by simp [Value.oneCell']) (by unfold maxLen; omega) (by omega) (by have := hb.size; simp; omega) ?_; intro v' w1 hown' hgrow _)
            have hb2 : Below w.heap.size w w1 := (hb.alloc hb.size _).grown hgrow (by have := hb.size; simp; omega) (own_from hown)
            go_wp2
            go_roundw
            case rel => exact ⟨65, out ++ [(z, (64 : Int))], -1, by omega, by go_num, rfl, by omega, by simpa [flat_append, flat] using hown', by rw [HC.out, E65.out, runs_end f _ _ _ HN.out hz1, List.append_assoc]; rfl, hb2⟩
            case measure => simp [intOf]
end Go.Proofs.YtdibijhaiaiifaaDoor
/- The walks of the reference's operations. -/
namespace Go.Proofs.YtdibijhaiaiifaaDoor
open Go.RowKit
theorem BoolBlk.far {w : World} {b : Nat} {f : Nat → Bool} (h : BoolBlk w b f) {p : Addr} (hp : b ≠ p.block) (u : Value) : BoolBlk (w.setCell p u) b f := by
  obtain ⟨cs, h, r⟩ := h
  exact ⟨cs, (Below.heap_setCell w p u b hp).trans h, r⟩
theorem rOf_any (v : Value) (l : List Sp) (w : World) (h : IsSpans w v l) :
    Calls Tryd.prog 79 #[v] w fun e w' => ∃ u, e = .returned u ∧ IsSpans w' u (canon (setOf l)) ∧ Below w.heap.size w w' := by
  go_enter Tryd.func79, Tryd.ntmps79
  go_wp2_with fail
  refine (Bits_any v l _ h).mono ?_
  rintro e w1 ⟨b, f, rfl, hb, hblk, hf, hb1⟩
  go_wp2_with fail
  refine (List_any b f _ hblk).mono ?_
  rintro e w2 ⟨u, rfl, hu, hb2⟩
  go_wp2
  go_ret
  exact ⟨u, rfl, by rw [← canon_ext hf]; exact hu, below_trans hb1 hb2⟩
set_option maxHeartbeats 2000000 in
theorem rUnion_any (va vb : Value) (a b : List Sp) (w : World) (ha : IsSpans w va a) (hb : IsSpans w vb b) :
    Calls Tryd.prog 81 #[va, vb] w fun e w' => ∃ u, e = .returned u ∧ IsSpans w' u (canon fun k => setOf a k || setOf b k) ∧ Below w.heap.size w w' := by
  go_enter Tryd.func81, Tryd.ntmps81
  go_wp2_with fail
  refine (Bits_any va a _ ha).mono ?_
  rintro e w1 ⟨bx, f, rfl, hbx, hf, hfa, hb1⟩
  go_wp2_with fail
  refine (Bits_any vb b _ (hb.keep hb1)).mono ?_
  rintro e w2 ⟨by', g, rfl, hby, hg, hgb, hb2⟩
  have hf2 := hf.keep hb2
  have hlt := hf.lt
  have hb12 := below_trans hb1 hb2
  have HFA := Lib.hid hfa
  have HGB := Lib.hid hgb
  clear hfa hgb
  go_wp2_with fail
  go_loopw [7] (fun i wr => ∃ (k : Nat) (h : Nat → Bool), k ≤ 64 ∧ i = .int .i64 k ∧ BoolBlk wr bx h ∧ BoolBlk wr by' g ∧ (∀ j, j < 64 → h j = if j < k then (f j || g j) else f j) ∧ Below w.heap.size w wr) (fun i _ => 64 - (intOf i).toNat)
  case atStart => exact ⟨0, f, by omega, rfl, hf2, hg, fun j _ => by simp, hb12⟩
  case round =>
    obtain ⟨k, h, hk, rfl, hh, hgr, hhf, hbel⟩ := hrel
    have HH := Lib.hid hhf
    clear hhf
    by_cases hlt64 : k < 64
    · have c1 := hh.cell hlt64
      have c2 := hgr.cell hlt64
      have f1 := hh.frozen k
      obtain ⟨u, hu⟩ : ∃ u, h k = u := ⟨_, rfl⟩
      obtain ⟨t, ht⟩ : ∃ t, g k = t := ⟨_, rfl⟩
      rw [hu] at c1
      rw [ht] at c2
      have HU := Lib.hid hu
      have HT := Lib.hid ht
      clear hu ht
      cases u
      all_goals
        go_wp2
        go_roundw
        case rel =>
          refine ⟨k + 1, _, by omega, by go_num, hh.set hlt64 _, hgr.far (p := ⟨bx, k, none⟩) (by intro e; subst e; omega) _, fun j hj => ?_, hbel.setCell (p := ⟨bx, k, none⟩) (by omega) _⟩
          have hfk : f k = h k := by have := HH.out k hlt64; simpa using this.symm
          by_cases hjk : j = k
          · subst hjk
            have : j < j + 1 := by omega
            simp [hfk, HU.out, HT.out]
          · have e1 : (j < k + 1) ↔ j < k := by omega
            simp only [hjk, if_false, HH.out j hj, e1]
        case measure => simp [intOf]; omega
    · have e : k = 64 := by omega
      have HE := Lib.hid e
      clear e
      go_wp2_with fail
      refine (List_any bx h _ hh).mono ?_
      rintro e w4 ⟨u, rfl, hu, hb4⟩
      go_wp2
      go_ret
      refine ⟨u, rfl, ?_, below_trans hbel hb4⟩
      rw [canon_ext (T := h) (fun j hj => by rw [HH.out j hj, HE.out, if_pos hj, HFA.out j hj, HGB.out j hj])]
      exact hu
set_option maxHeartbeats 2000000 in
theorem rMeet_any (va vb : Value) (a b : List Sp) (w : World) (ha : IsSpans w va a) (hb : IsSpans w vb b) :
    Calls Tryd.prog 85 #[va, vb] w fun e w' => ∃ u, e = .returned u ∧ IsSpans w' u (canon fun k => setOf a k && setOf b k) ∧ Below w.heap.size w w' := by
  go_enter Tryd.func85, Tryd.ntmps85
  go_wp2_with fail
  refine (Bits_any va a _ ha).mono ?_
  rintro e w1 ⟨bx, f, rfl, hbx, hf, hfa, hb1⟩
  go_wp2_with fail
  refine (Bits_any vb b _ (hb.keep hb1)).mono ?_
  rintro e w2 ⟨by', g, rfl, hby, hg, hgb, hb2⟩
  have hf2 := hf.keep hb2
  have hlt := hf.lt
  have hb12 := below_trans hb1 hb2
  have HFA := Lib.hid hfa
  have HGB := Lib.hid hgb
  clear hfa hgb
  go_wp2_with fail
  go_loopw [7] (fun i wr => ∃ (k : Nat) (h : Nat → Bool), k ≤ 64 ∧ i = .int .i64 k ∧ BoolBlk wr bx h ∧ BoolBlk wr by' g ∧ (∀ j, j < 64 → h j = if j < k then (f j && g j) else f j) ∧ Below w.heap.size w wr) (fun i _ => 64 - (intOf i).toNat)
  case atStart => exact ⟨0, f, by omega, rfl, hf2, hg, fun j _ => by simp, hb12⟩
  case round =>
    obtain ⟨k, h, hk, rfl, hh, hgr, hhf, hbel⟩ := hrel
    have HH := Lib.hid hhf
    clear hhf
    by_cases hlt64 : k < 64
    · have c1 := hh.cell hlt64
      have c2 := hgr.cell hlt64
      have f1 := hh.frozen k
      obtain ⟨u, hu⟩ : ∃ u, h k = u := ⟨_, rfl⟩
      obtain ⟨t, ht⟩ : ∃ t, g k = t := ⟨_, rfl⟩
      rw [hu] at c1
      rw [ht] at c2
      have HU := Lib.hid hu
      have HT := Lib.hid ht
      clear hu ht
      cases u
      all_goals
        go_wp2
        go_roundw
        case rel =>
          refine ⟨k + 1, _, by omega, by go_num, hh.set hlt64 _, hgr.far (p := ⟨bx, k, none⟩) (by intro e; subst e; omega) _, fun j hj => ?_, hbel.setCell (p := ⟨bx, k, none⟩) (by omega) _⟩
          have hfk : f k = h k := by have := HH.out k hlt64; simpa using this.symm
          by_cases hjk : j = k
          · subst hjk
            have : j < j + 1 := by omega
            simp [hfk, HU.out, HT.out]
          · have e1 : (j < k + 1) ↔ j < k := by omega
            simp only [hjk, if_false, HH.out j hj, e1]
        case measure => simp [intOf]; omega
    · have e : k = 64 := by omega
      have HE := Lib.hid e
      clear e
      go_wp2_with fail
      refine (List_any bx h _ hh).mono ?_
      rintro e w4 ⟨u, rfl, hu, hb4⟩
      go_wp2
      go_ret
      refine ⟨u, rfl, ?_, below_trans hbel hb4⟩
      rw [canon_ext (T := h) (fun j hj => by rw [HH.out j hj, HE.out, if_pos hj, HFA.out j hj, HGB.out j hj])]
      exact hu
set_option maxHeartbeats 2000000 in
theorem rNot_any (va : Value) (a : List Sp) (w : World) (ha : IsSpans w va a) :
    Calls Tryd.prog 125 #[va] w fun e w' => ∃ u, e = .returned u ∧ IsSpans w' u (canon fun k => !setOf a k) ∧ Below w.heap.size w w' := by
  go_enter Tryd.func125, Tryd.ntmps125
  go_wp2_with fail
  refine (Bits_any va a _ ha).mono ?_
  rintro e w1 ⟨bx, f, rfl, hbx, hf, hfa, hb1⟩
  have HFA := Lib.hid hfa
  clear hfa
  go_wp2_with fail
  go_loopw [4] (fun i wr => ∃ (k : Nat) (h : Nat → Bool), k ≤ 64 ∧ i = .int .i64 k ∧ BoolBlk wr bx h ∧ (∀ j, j < 64 → h j = if j < k then !f j else f j) ∧ Below w.heap.size w wr) (fun i _ => 64 - (intOf i).toNat)
  case atStart => exact ⟨0, f, by omega, rfl, hf, fun j _ => by simp, hb1⟩
  case round =>
    obtain ⟨k, h, hk, rfl, hh, hhf, hbel⟩ := hrel
    have HH := Lib.hid hhf
    clear hhf
    by_cases hlt64 : k < 64
    · have c1 := hh.cell hlt64
      have f1 := hh.frozen k
      obtain ⟨u, hu⟩ : ∃ u, h k = u := ⟨_, rfl⟩
      rw [hu] at c1
      have HU := Lib.hid hu
      clear hu
      go_wp2
      go_roundw
      case rel =>
        refine ⟨k + 1, _, by omega, by go_num, hh.set hlt64 _, fun j hj => ?_, hbel.setCell (p := ⟨bx, k, none⟩) (by omega) _⟩
        have hfk : f k = h k := by have := HH.out k hlt64; simpa using this.symm
        by_cases hjk : j = k
        · subst hjk
          simp [hfk, HU.out]
        · have e1 : (j < k + 1) ↔ j < k := by omega
          simp only [hjk, if_false, HH.out j hj, e1]
      case measure => simp [intOf]; omega
    · have e : k = 64 := by omega
      have HE := Lib.hid e
      clear e
      go_wp2_with fail
      refine (List_any bx h _ hh).mono ?_
      rintro e w4 ⟨u, rfl, hu, hb4⟩
      go_wp2
      go_ret
      refine ⟨u, rfl, ?_, below_trans hbel hb4⟩
      rw [canon_ext (T := h) (fun j hj => by rw [HH.out j hj, HE.out, if_pos hj, HFA.out j hj])]
      exact hu
theorem rMinus_any (va vb : Value) (a b : List Sp) (w : World) (ha : IsSpans w va a) (hb : IsSpans w vb b) :
    Calls Tryd.prog 82 #[va, vb] w fun e w' => ∃ u, e = .returned u ∧ IsSpans w' u (canon fun k => setOf a k && !setOf b k) ∧ Below w.heap.size w w' := by
  go_enter Tryd.func82, Tryd.ntmps82
  go_wp2_with fail
  refine (rNot_any vb b _ hb).mono ?_
  rintro e w1 ⟨v1, rfl, h1, hb1⟩
  go_wp2_with fail
  refine (rMeet_any va v1 a _ _ (ha.keep hb1) h1).mono ?_
  rintro e w2 ⟨v2, rfl, h2, hb2⟩
  go_wp2
  go_ret
  refine ⟨v2, rfl, ?_, below_trans hb1 hb2⟩
  rw [canon_ext (T := fun k => setOf a k && setOf (canon fun k => !setOf b k) k) (fun j hj => by rw [setOf_canon _ j hj])]
  exact h2
theorem Valid_any (v : Value) (l : List Sp) (w : World) (hT : Tab w) (h : IsSpans w v l) :
    Calls Tryd.prog 72 #[v] w fun e w' => e = .returned (.bool (decide (l = canon (setOf l)))) ∧ Below w.heap.size w w' := by
  go_enter Tryd.func72, Tryd.ntmps72
  go_wp2_with fail
  refine (Of_any v l _ hT h).mono ?_
  rintro e w1 ⟨v1, rfl, ⟨h1, -⟩, hb1⟩
  go_wp2_with fail
  refine (Equal_any v v1 l _ _ (h.keep hb1) h1).mono ?_
  rintro e w2 ⟨rfl, hb2⟩
  go_wp2
  go_ret
  exact ⟨rfl, below_trans hb1 hb2⟩
theorem rValid_any (v : Value) (l : List Sp) (w : World) (h : IsSpans w v l) :
    Calls Tryd.prog 110 #[v] w fun e w' => e = .returned (.bool (decide (l = canon (setOf l)))) ∧ Below w.heap.size w w' := by
  go_enter Tryd.func110, Tryd.ntmps110
  go_wp2_with fail
  refine (rOf_any v l _ h).mono ?_
  rintro e w1 ⟨v1, rfl, h1, hb1⟩
  go_wp2_with fail
  refine (Same_any v v1 l _ _ (h.keep hb1) h1).mono ?_
  rintro e w2 ⟨rfl, hb2⟩
  go_wp2
  go_ret
  exact ⟨rfl, below_trans hb1 hb2⟩
theorem rHas_any (va : Value) (a : List Sp) (k : Int) (w : World) (ha : IsSpans w va a) :
    Calls Tryd.prog 89 #[va, .int .i64 k] w fun e w' => e = .returned (.bool (inSet a k)) ∧ Below w.heap.size w w' := by
  by_cases h0 : 0 ≤ k
  · by_cases h1 : k < 64
    · obtain ⟨n, rfl⟩ := Int.eq_ofNat_of_zero_le h0
      have E := Lib.hid (show inSet a (n : Int) = setOf a n from by simp [inSet, setOf]; omega)
      go_enter Tryd.func89, Tryd.ntmps89
      go_wp2_with (first | (go_at_call 124; refine (Bits_any va a _ ha).mono ?_; rintro e w1 ⟨b, f, rfl, hb, hblk, hf, hb1⟩; have c1 := hblk.cell (k := n) (by omega); have HF := Lib.hid hf; clear hf))
      go_ret
      exact ⟨by rw [E.out, ← HF.out n (by omega)]; rfl, hb1⟩
    · have E := Lib.hid (show inSet a k = false from by simp [inSet]; omega)
      go_enter Tryd.func89, Tryd.ntmps89
      go_wp2
      go_ret
      exact ⟨by rw [E.out]; rfl, Below.refl _ _⟩
  · have E := Lib.hid (show inSet a k = false from by simp [inSet]; omega)
    go_enter Tryd.func89, Tryd.ntmps89
    go_wp2
    go_ret
    exact ⟨by rw [E.out]; rfl, Below.refl _ _⟩
/-- How many of the first k moments are in the set. -/
def cntTo (f : Nat → Bool) (k : Nat) : Nat := (List.range k).countP f
theorem cntTo_succ (f : Nat → Bool) (k : Nat) : cntTo f (k + 1) = cntTo f k + if f k = true then 1 else 0 := by
  unfold cntTo
  rw [List.range_succ, List.countP_append]; simp [List.countP_cons]
theorem cntTo_le (f : Nat → Bool) (k : Nat) : cntTo f k ≤ k := by
  have := List.countP_le_length (p := f) (l := List.range k)
  simpa [cntTo] using this
theorem cntTo_ext {f g : Nat → Bool} (h : ∀ k, k < 64 → f k = g k) : cntTo f 64 = cntTo g 64 := by
  unfold cntTo
  exact List.countP_congr fun k hk => by rw [h k (by simpa using hk)]
end Go.Proofs.YtdibijhaiaiifaaDoor
/- Tuples, their order, relations over moments: the plain mathematics, no program in sight. -/
namespace Go.Proofs.YtdibijhaiaiifaaDoor
/-! ### Comparisons -/
structure IsCmp {α : Type} (f : α → α → Int) : Prop where
  val : ∀ x y, f x y = -1 ∨ f x y = 0 ∨ f x y = 1
  eq : ∀ x y, f x y = 0 ↔ x = y
  anti : ∀ x y, f y x = - f x y
  trans : ∀ x y z, f x y < 0 → f y z < 0 → f x z < 0
def cmpI (a b : Int) : Int := if a < b then -1 else if b < a then 1 else 0
theorem cmpI_is : IsCmp cmpI where
  val := fun x y => by unfold cmpI; split <;> (try split) <;> simp
  eq := fun x y => by unfold cmpI; split <;> (try split) <;> simp <;> omega
  anti := fun x y => by unfold cmpI; split <;> split <;> (try split) <;> omega
  trans := fun x y z h k => by
    unfold cmpI at *
    split at h
    · split at k
      · rw [if_pos (by omega)]; omega
      · split at k <;> omega
    · split at h <;> omega
/-- Lists by a comparison of their elements. -/
def cmpL {α : Type} (f : α → α → Int) : List α → List α → Int
  | [], [] => 0
  | [], _ :: _ => -1
  | _ :: _, [] => 1
  | x :: a, y :: b => if f x y = 0 then cmpL f a b else f x y
theorem cmpL_is {α : Type} {f : α → α → Int} (hf : IsCmp f) : IsCmp (cmpL f) where
  val := fun a => by
    induction a with
    | nil => intro b; cases b <;> simp [cmpL]
    | cons x a ih =>
      intro b
      cases b with
      | nil => simp [cmpL]
      | cons y b =>
        rw [cmpL]
        split
        · exact ih b
        · exact hf.val x y
  eq := fun a => by
    induction a with
    | nil => intro b; cases b <;> simp [cmpL]
    | cons x a ih =>
      intro b
      cases b with
      | nil => simp [cmpL]
      | cons y b =>
        rw [cmpL]
        split
        · rename_i h
          rw [ih b]
          have := (hf.eq x y).1 h
          subst this
          simp
        · rename_i h
          constructor
          · intro h'; exact absurd h' h
          · intro e
            simp only [List.cons.injEq] at e
            exact absurd ((hf.eq x y).2 e.1) h
  anti := fun a => by
    induction a with
    | nil => intro b; cases b <;> simp [cmpL]
    | cons x a ih =>
      intro b
      cases b with
      | nil => simp [cmpL]
      | cons y b =>
        rw [cmpL, cmpL, hf.anti x y]
        by_cases h : f x y = 0
        · rw [if_pos (by omega), if_pos h, ih b]
        · rw [if_neg (by omega), if_neg h]
  trans := fun a => by
    induction a with
    | nil =>
      intro b c h k
      cases b with
      | nil => simp [cmpL] at h
      | cons y b =>
        cases c with
        | nil => simp [cmpL] at k
        | cons z c => simp [cmpL]
    | cons x a ih =>
      intro b c h k
      cases b with
      | nil => simp [cmpL] at h
      | cons y b =>
        cases c with
        | nil => simp [cmpL] at k
        | cons z c =>
          rw [cmpL] at h k ⊢
          by_cases h1 : f x y = 0
          · rw [if_pos h1] at h
            have e := (hf.eq x y).1 h1
            subst e
            by_cases h2 : f x z = 0
            · rw [if_pos h2] at k ⊢
              exact ih b c h k
            · rw [if_neg h2] at k ⊢
              exact k
          · rw [if_neg h1] at h
            by_cases h2 : f y z = 0
            · have e := (hf.eq y z).1 h2
              subst e
              rw [if_neg h1]; exact h
            · rw [if_neg h2] at k
              have h3 := hf.trans x y z h k
              rw [if_neg (by omega)]; exact h3
def cmpB (x y : UInt8) : Int := cmpI x.toNat y.toNat
theorem cmpB_is : IsCmp cmpB where
  val := fun x y => cmpI_is.val _ _
  eq := fun x y => by
    unfold cmpB
    rw [cmpI_is.eq]
    constructor
    · intro h; exact UInt8.toNat_inj.1 (by omega)
    · intro h; rw [h]
  anti := fun x y => cmpI_is.anti _ _
  trans := fun x y z => cmpI_is.trans _ _ _
/-! ### Values -/
structure Vl where
  t : Int
  n : Int
  s : List UInt8
  ok : s.length ≤ 9223372036854775807
theorem Vl.ext' {a b : Vl} (h : a.t = b.t) (k : a.n = b.n) (l : a.s = b.s) : a = b := by cases a; cases b; simp at h k l; subst h k l; rfl
instance : DecidableEq Vl := fun a b => if h : a.t = b.t ∧ a.n = b.n ∧ a.s = b.s then isTrue (Vl.ext' h.1 h.2.1 h.2.2) else isFalse fun e => h (by subst e; exact ⟨rfl, rfl, rfl⟩)
def cmpV (a b : Vl) : Int := if cmpI a.t b.t = 0 then (if cmpI a.n b.n = 0 then cmpL cmpB a.s b.s else cmpI a.n b.n) else cmpI a.t b.t
theorem cmpV_is : IsCmp cmpV where
  val := fun a b => by
    unfold cmpV
    split
    · split
      · exact (cmpL_is cmpB_is).val _ _
      · exact cmpI_is.val _ _
    · exact cmpI_is.val _ _
  eq := fun a b => by
    unfold cmpV
    split
    · rename_i h1
      have e1 := (cmpI_is.eq _ _).1 h1
      split
      · rename_i h2
        have e2 := (cmpI_is.eq _ _).1 h2
        rw [(cmpL_is cmpB_is).eq]
        exact ⟨fun e => Vl.ext' e1 e2 e, fun e => by rw [e]⟩
      · rename_i h2
        exact ⟨fun e => absurd e h2, fun e => absurd ((cmpI_is.eq _ _).2 (by rw [e])) h2⟩
    · rename_i h1
      exact ⟨fun e => absurd e h1, fun e => absurd ((cmpI_is.eq _ _).2 (by rw [e])) h1⟩
  anti := fun a b => by
    unfold cmpV
    rw [cmpI_is.anti a.t b.t, cmpI_is.anti a.n b.n, (cmpL_is cmpB_is).anti a.s b.s]
    by_cases h1 : cmpI a.t b.t = 0
    · rw [if_pos (by omega), if_pos h1]
      by_cases h2 : cmpI a.n b.n = 0
      · rw [if_pos (by omega), if_pos h2]
      · rw [if_neg (by omega), if_neg h2]
    · rw [if_neg (by omega), if_neg h1]
  trans := fun a b c h k => by
    unfold cmpV at *
    by_cases h1 : cmpI a.t b.t = 0
    · have e1 := (cmpI_is.eq _ _).1 h1
      rw [if_pos h1] at h
      rw [e1]
      by_cases k1 : cmpI b.t c.t = 0
      · rw [if_pos k1] at k ⊢
        by_cases h2 : cmpI a.n b.n = 0
        · have e2 := (cmpI_is.eq _ _).1 h2
          rw [if_pos h2] at h
          rw [e2]
          by_cases k2 : cmpI b.n c.n = 0
          · rw [if_pos k2] at k ⊢
            exact (cmpL_is cmpB_is).trans _ _ _ h k
          · rw [if_neg k2] at k ⊢
            exact k
        · rw [if_neg h2] at h
          by_cases k2 : cmpI b.n c.n = 0
          · have e2 := (cmpI_is.eq _ _).1 k2
            rw [← e2, if_neg h2]; exact h
          · rw [if_neg k2] at k
            have := cmpI_is.trans _ _ _ h k
            rw [if_neg (by omega)]; exact this
      · rw [if_neg k1] at k ⊢
        exact k
    · rw [if_neg h1] at h
      by_cases k1 : cmpI b.t c.t = 0
      · have e1 := (cmpI_is.eq _ _).1 k1
        rw [← e1, if_neg h1]; exact h
      · rw [if_neg k1] at k
        have := cmpI_is.trans _ _ _ h k
        rw [if_neg (by omega)]; exact this
/-! ### Tuples -/
abbrev Tp := List Vl
def cmpT (a b : Tp) : Int := cmpL cmpV a b
theorem cmpT_is : IsCmp cmpT := cmpL_is cmpV_is
theorem IsCmp.refl {α : Type} {f : α → α → Int} (h : IsCmp f) (x : α) : f x x = 0 := (h.eq x x).2 rfl
theorem IsCmp.lt_le {α : Type} {f : α → α → Int} (h : IsCmp f) {x y z : α} (a : f x y < 0) (b : f y z ≤ 0) : f x z < 0 := by
  rcases Int.lt_or_eq_of_le b with b | b
  · exact h.trans _ _ _ a b
  · rw [← (h.eq y z).1 b]; exact a
theorem IsCmp.le_lt {α : Type} {f : α → α → Int} (h : IsCmp f) {x y z : α} (a : f x y ≤ 0) (b : f y z < 0) : f x z < 0 := by
  rcases Int.lt_or_eq_of_le a with a | a
  · exact h.trans _ _ _ a b
  · rw [(h.eq x y).1 a]; exact b
theorem IsCmp.le_trans {α : Type} {f : α → α → Int} (h : IsCmp f) {x y z : α} (a : f x y ≤ 0) (b : f y z ≤ 0) : f x z ≤ 0 := by
  rcases Int.lt_or_eq_of_le a with a | a
  · exact Int.le_of_lt (h.lt_le a b)
  · rw [(h.eq x y).1 a]; exact b
theorem IsCmp.total {α : Type} {f : α → α → Int} (h : IsCmp f) (x y : α) : f x y ≤ 0 ∨ f y x < 0 := by
  have := h.anti x y
  omega
/-! ### Relations -/
abbrev Rw := Tp × List Sp
/-- Whether a tuple holds at a moment. -/
def mom (r : List Rw) (t : Tp) (k : Nat) : Bool := r.any fun x => decide (x.1 = t) && setOf x.2 k
theorem mom_nil (t : Tp) (k : Nat) : mom [] t k = false := rfl
theorem mom_cons (x : Rw) (r : List Rw) (t : Tp) (k : Nat) : mom (x :: r) t k = ((decide (x.1 = t) && setOf x.2 k) || mom r t k) := rfl
theorem mom_append (a b : List Rw) (t : Tp) (k : Nat) : mom (a ++ b) t k = (mom a t k || mom b t k) := by simp [mom, List.any_append]
theorem mom_perm {a b : List Rw} (h : a.Perm b) (t : Tp) (k : Nat) : mom a t k = mom b t k := by
  unfold mom
  rw [Bool.eq_iff_iff, List.any_eq_true, List.any_eq_true]
  exact ⟨fun ⟨x, hx, e⟩ => ⟨x, h.mem_iff.1 hx, e⟩, fun ⟨x, hx, e⟩ => ⟨x, h.mem_iff.2 hx, e⟩⟩
/-- Tuples that grow. -/
def Up : List Rw → Prop
  | [] => True
  | x :: r => (∀ y ∈ r, cmpT x.1 y.1 < 0) ∧ Up r
/-- Spans that are canonical and not none. -/
def OkW (l : List Sp) : Prop := l ≠ [] ∧ canon (setOf l) = l
def IsCan (r : List Rw) : Prop := Up r ∧ ∀ x ∈ r, OkW x.2
theorem mom_none {r : List Rw} {t : Tp} (h : ∀ y ∈ r, cmpT t y.1 < 0) (k : Nat) : mom r t k = false := by
  unfold mom
  rw [List.any_eq_false]
  intro x hx
  have h1 := h x hx
  have : x.1 ≠ t := fun e => by rw [e, cmpT_is.refl] at h1; omega
  simp [this]
theorem mom_head {x : Rw} {r : List Rw} (h : Up (x :: r)) (k : Nat) : mom (x :: r) x.1 k = setOf x.2 k := by
  rw [mom_cons, mom_none h.1, decide_eq_true rfl, Bool.true_and, Bool.or_false]
theorem mom_tail {x : Rw} {r : List Rw} {t : Tp} (h : x.1 ≠ t) (k : Nat) : mom (x :: r) t k = mom r t k := by
  rw [mom_cons, decide_eq_false h, Bool.false_and, Bool.false_or]
theorem ok_some {l : List Sp} (h : OkW l) : ∃ k, k < 64 ∧ setOf l k = true := by
  refine Classical.byContradiction fun hn => h.1 ?_
  rw [← h.2, canon_ext (T := fun _ => false) fun k hk => ?_]
  · decide
  · cases e : setOf l k with
    | false => rfl
    | true => exact absurd ⟨k, hk, e⟩ hn
/-- A canonical relation is known by its moments. -/
theorem can_ext : ∀ (a b : List Rw), IsCan a → IsCan b → (∀ t k, k < 64 → mom a t k = mom b t k) → a = b
  | [], [], _, _, _ => rfl
  | [], y :: b, _, hb, h => by
    obtain ⟨k, hk, e⟩ := ok_some (hb.2 y (by simp))
    have := h y.1 k hk
    rw [mom_head hb.1, e, mom_nil] at this
    cases this
  | x :: a, [], ha, _, h => by
    obtain ⟨k, hk, e⟩ := ok_some (ha.2 x (by simp))
    have := h x.1 k hk
    rw [mom_head ha.1, e, mom_nil] at this
    cases this
  | x :: a, y :: b, ha, hb, h => by
    have hxy : x.1 = y.1 := by
      rcases cmpT_is.total x.1 y.1 with hle | hlt
      · rcases Int.lt_or_eq_of_le hle with hlt | he
        · obtain ⟨k, hk, e⟩ := ok_some (ha.2 x (by simp))
          have := h x.1 k hk
          rw [mom_head ha.1, e, mom_none fun z hz => ?_] at this
          · cases this
          · rcases List.mem_cons.1 hz with rfl | hz
            · exact hlt
            · exact cmpT_is.trans _ _ _ hlt (hb.1.1 z hz)
        · exact (cmpT_is.eq _ _).1 he
      · obtain ⟨k, hk, e⟩ := ok_some (hb.2 y (by simp))
        have := h y.1 k hk
        rw [mom_head hb.1, e, mom_none fun z hz => ?_] at this
        · cases this
        · rcases List.mem_cons.1 hz with rfl | hz
          · exact hlt
          · exact cmpT_is.trans _ _ _ hlt (ha.1.1 z hz)
    have hw : x.2 = y.2 := by
      rw [← (ha.2 x (by simp)).2, ← (hb.2 y (by simp)).2]
      refine canon_ext fun k hk => ?_
      rw [← mom_head ha.1, ← mom_head hb.1, hxy]
      have := h y.1 k hk
      exact this
    have ht : a = b := can_ext a b ⟨ha.1.2, fun z hz => ha.2 z (by simp [hz])⟩ ⟨hb.1.2, fun z hz => hb.2 z (by simp [hz])⟩ fun t k hk => by
      by_cases e : x.1 = t
      · subst e
        rw [mom_none ha.1.1, hxy, mom_none hb.1.1]
      · rw [← mom_tail (r := a) e, h t k hk, mom_tail (by rw [← hxy]; exact e)]
    have : x = y := Prod.ext hxy hw
    rw [this, ht]
/-! ### A sorted list's runs -/
def Sorted : List Rw → Prop
  | [] => True
  | x :: r => (∀ y ∈ r, cmpT x.1 y.1 ≤ 0) ∧ Sorted r
/-- The spans of the rows at the head that have a tuple, and the rows behind them. -/
def headW (t : Tp) : List Rw → List Sp
  | [] => []
  | x :: r => if cmpT t x.1 = 0 then x.2 ++ headW t r else []
def headN (t : Tp) : List Rw → Nat
  | [] => 0
  | x :: r => if cmpT t x.1 = 0 then headN t r + 1 else 0
theorem headN_le (t : Tp) : ∀ r, headN t r ≤ r.length
  | [] => Nat.le_refl _
  | x :: r => by
    rw [headN]
    split
    · have := headN_le t r; simp; omega
    · simp
/-- What canonical makes of a sorted list, n rows at most. -/
def group : Nat → List Rw → List Rw
  | 0, _ => []
  | _ + 1, [] => []
  | n + 1, x :: r => if canon (setOf (headW x.1 (x :: r))) = [] then group n ((x :: r).drop (headN x.1 (x :: r))) else (x.1, canon (setOf (headW x.1 (x :: r)))) :: group n ((x :: r).drop (headN x.1 (x :: r)))
end Go.Proofs.YtdibijhaiaiifaaDoor
