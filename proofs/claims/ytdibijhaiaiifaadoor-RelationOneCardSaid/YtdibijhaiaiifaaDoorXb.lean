/- The walks of package value's Compare and CompareTuple. -/
import Derived.Test.YtdibijhaiaiifaaDoorXa
import Derived.Lib.ConvBytes
namespace Go.Proofs.YtdibijhaiaiifaaDoor
open Go.RowKit
theorem grew_bytes (w : World) (s : ByteArray) : Grew w (Lib.bytesWorld w 5 s) := by
  refine ⟨1, #[.cells (Lib.bytesCells w 5 s) 5 ((Lib.bytesCells w 5 s).size, (Lib.bytesCells w 5 s).size + 1)], ?_⟩
  have hh : (Lib.bytesWorld w 5 s).heap = w.heap ++ #[.cells (Lib.bytesCells w 5 s) 5 ((Lib.bytesCells w 5 s).size, (Lib.bytesCells w 5 s).size + 1)] := by
    apply Array.ext_getElem?
    intro i
    rcases Nat.lt_trichotomy i w.heap.size with h | h | h
    · rw [Lib.bytesWorld_at_old w 5 s i h, Array.getElem?_append_left h]
    · subst h
      rw [Lib.bytesWorld_at_new, Array.getElem?_append_right (Nat.le_refl _)]; simp
    · rw [Array.getElem?_eq_none (by rw [Lib.bytesWorld_size]; omega), Array.getElem?_eq_none (by simp; omega)]
  have e : Lib.bytesWorld w 5 s = { w.drew with heap := (Lib.bytesWorld w 5 s).heap } := by
    unfold Lib.bytesWorld World.freeze
    rw [if_neg (by decide)]
    rfl
  rw [e, hh]
  rfl
theorem bytes_conv (w : World) (l : List UInt8) (hl : l.length ≤ 9223372036854775807) : ∃ c, (convert 9 117 (strV l)).run Tryd.prog w = .ok (.slice (some ⟨w.heap.size, 0, none⟩) l.length c) (Lib.bytesWorld w 5 ⟨l.toArray⟩) ∧ IsBytes (Lib.bytesWorld w 5 ⟨l.toArray⟩) (.slice (some ⟨w.heap.size, 0, none⟩) l.length c) l := by
  have h := Lib.run_convert_string_bytes (P := Tryd.prog) w 9 117 5 ⟨l.toArray⟩ Tryd.underlying9 Tryd.underlying117 Tryd.underlying5
  have hs : (ByteArray.mk l.toArray).size = l.length := by simp [ByteArray.size]
  rw [hs] at h
  refine ⟨_, h, _, _, rfl, .inr ⟨_, 0, rfl, fun i x hi j u hj => ?_⟩, hl, grownCap_ge w _ 0 5, grownCap_le_maxLen w _ 0 5 hl⟩
  have hj0 : j = 0 := by
    rcases j with _ | j
    · rfl
    · simp [encB] at hj
  subst hj0
  obtain rfl : Value.int .u8 x.toNat = u := by simpa [encB] using hj
  have hlt : i < l.length := (List.getElem?_eq_some_iff.1 hi).1
  have := Lib.bytesWorld_cell w 5 ⟨l.toArray⟩ i (by rw [hs]; exact hlt)
  rw [show (0 : Nat) + i * 1 + 0 = i from by omega, this]
  have hx : l[i] = x := by rw [List.getElem?_eq_getElem hlt] at hi; exact Option.some.inj hi
  simp [hlt, hx]
theorem cmpV_one {a b : Vl} {r : Int} (h : cmpI a.t b.t = r) (hr : ¬ r = 0) : cmpV a b = r := by unfold cmpV; rw [h, if_neg hr]
theorem cmpV_two {a b : Vl} {r : Int} (h0 : cmpI a.t b.t = 0) (h : cmpI a.n b.n = r) (hr : ¬ r = 0) : cmpV a b = r := by unfold cmpV; rw [h0, h, if_pos rfl, if_neg hr]
theorem cmpV_three {a b : Vl} (h0 : cmpI a.t b.t = 0) (h : cmpI a.n b.n = 0) : cmpV a b = cmpL cmpB a.s b.s := by unfold cmpV; rw [h0, h, if_pos rfl, if_pos rfl]
theorem cells3 (w : World) (x y z : Value) (t : TypeId) : (w.alloc (.cells #[x, y, z] t)).cell? ⟨w.heap.size, 0, none⟩ = some x ∧ (w.alloc (.cells #[x, y, z] t)).cell? ⟨w.heap.size, 1, none⟩ = some y ∧ (w.alloc (.cells #[x, y, z] t)).cell? ⟨w.heap.size, 2, none⟩ = some z := by
  have e : (w.alloc (.cells #[x, y, z] t)).heap[w.heap.size]? = some (.cells #[x, y, z] t) := World.alloc_heap_new w _
  exact ⟨cell_at e rfl, cell_at e rfl, cell_at e rfl⟩
set_option maxHeartbeats 1000000 in
theorem Compare_any (a b : Vl) (w : World) : Calls Tryd.prog 67 #[valV a, valV b] w fun e w' => e = .returned (.int .i64 (cmpV a b)) ∧ Grew w w' := by
  obtain ⟨ta, an, sa, hal⟩ := a
  obtain ⟨tb, bn, sb, hbl⟩ := b
  unfold valV
  obtain ⟨r, hr⟩ : ∃ r, cmpI ta tb = r := ⟨_, rfl⟩
  obtain ⟨q, hq⟩ : ∃ q, cmpI an bn = q := ⟨_, rfl⟩
  have b1 : Grew w ((w.alloc (.cells #[.int .i64 ta, .int .i64 an, strV sa] 58)).alloc (.cells #[.int .i64 tb, .int .i64 bn, strV sb] 58)) := ((Grew.refl w).alloc _).alloc _
  obtain ⟨x0, x1, x2⟩ := cells3 w (.int .i64 ta) (.int .i64 an) (strV sa) 58
  obtain ⟨y0, y1, y2⟩ := cells3 (w.alloc (.cells #[.int .i64 ta, .int .i64 an, strV sa] 58)) (.int .i64 tb) (.int .i64 bn) (strV sb) 58
  have bb := below_new (w.alloc (.cells #[.int .i64 ta, .int .i64 an, strV sa] 58)) (.cells #[.int .i64 tb, .int .i64 bn, strV sb] 58)
  replace x0 := cell_keep bb x0
  replace x1 := cell_keep bb x1
  replace x2 := cell_keep bb x2
  clear bb
  rw [show (w.alloc (.cells #[.int .i64 ta, .int .i64 an, strV sa] 58)).heap.size = w.heap.size + 1 by simp] at y0 y1 y2
  have sz : ((w.alloc (.cells #[.int .i64 ta, .int .i64 an, strV sa] 58)).alloc (.cells #[.int .i64 tb, .int .i64 bn, strV sb] 58)).heap.size = w.heap.size + 2 := by simp
  go_enter Tryd.func67, Tryd.ntmps67
  go_upto_region 1 with fail
  obtain ⟨w0, hw0⟩ : ∃ x : World, x = (w.alloc (.cells #[.int .i64 ta, .int .i64 an, strV sa] 58)).alloc (.cells #[.int .i64 tb, .int .i64 bn, strV sb] 58) := ⟨_, rfl⟩
  rw [← hw0] at x0 x1 x2 y0 y1 y2 b1 sz
  rw [← hw0]
  clear hw0
  have SZ := Lib.hid sz
  clear sz
  go_wp2_with fail
  refine (cmpI_any _ _ _).mono ?_
  rintro e w1 ⟨rfl, rfl⟩
  rw [hr]
  by_cases h0 : r = 0
  · subst h0
    go_wp2_with fail
    refine (cmpI_any _ _ _).mono ?_
    rintro e w1 ⟨rfl, rfl⟩
    rw [hq]
    by_cases h1 : q = 0
    · subst h1
      have HR := Lib.hid (cmpV_three (a := ⟨ta, an, sa, hal⟩) (b := ⟨tb, bn, sb, hbl⟩) hr hq)
      obtain ⟨ca, c1, i1⟩ := bytes_conv w0 sa hal
      obtain ⟨cb, c2, i2⟩ := bytes_conv (Lib.bytesWorld w0 5 ⟨sa.toArray⟩) sb hbl
      have g1 := grew_bytes w0 ⟨sa.toArray⟩
      have g2 := grew_bytes (Lib.bytesWorld w0 5 ⟨sa.toArray⟩) ⟨sb.toArray⟩
      have y3 := cell_keep g1.below y2
      replace i1 := i1.keep (keeps_below g2.below)
      have g := (b1.trans g1).trans g2
      clear g1 g2 hr hq x0 x1 y0 y1 y2 b1
      generalize Lib.bytesWorld (Lib.bytesWorld w0 5 ⟨sa.toArray⟩) 5 ⟨sb.toArray⟩ = w2 at *
      generalize Lib.bytesWorld w0 5 ⟨sa.toArray⟩ = w1 at *
      go_wp2_with fail
      refine (listsB_any _ _ sa sb _ i1 i2).mono ?_
      rintro e w3 ⟨rfl, rfl⟩
      rw [← HR.out]
      go_wp2
      go_ret
      exact ⟨rfl, g⟩
    · have h1' : (q != 0) = true := by simpa using h1
      have HR := Lib.hid (cmpV_two (a := ⟨ta, an, sa, hal⟩) (b := ⟨tb, bn, sb, hbl⟩) hr hq h1)
      clear hr hq h1
      go_wp2
      go_ret
      exact ⟨by rw [HR.out]; rfl, b1⟩
  · have h0' : (r != 0) = true := by simpa using h0
    have HR := Lib.hid (cmpV_one (a := ⟨ta, an, sa, hal⟩) (b := ⟨tb, bn, sb, hbl⟩) hr h0)
    clear hr hq h0
    go_wp2
    go_ret
    exact ⟨by rw [HR.out]; rfl, b1⟩
set_option maxHeartbeats 1000000 in
theorem listsV_any (va vb : Value) (a b : Tp) (w : World) (ha : IsVals w va a) (hb : IsVals w vb b) :
    Calls Tryd.prog 122 #[va, vb, .func (.func 67) #[] #[]] w fun e w' => e = .returned (.int .i64 (cmpT a b)) ∧ Grew w w' := by
  obtain ⟨pa, ca, rfl, ha, hma⟩ := ha
  obtain ⟨pb, cb, rfl, hb, hmb⟩ := hb
  go_enter Tryd.func122, Tryd.ntmps122
  go_wp2
  go_loopw [7, 8, 9, 12] (fun _ _ _ i wr => ∃ k : Nat, k ≤ a.length ∧ k ≤ b.length ∧ i = .int .i64 k ∧ cmpL cmpV (a.drop k) (b.drop k) = cmpT a b ∧ Grew w wr) (fun _ _ _ i _ => a.length - (intOf i).toNat)
  case atStart => exact ⟨0, Nat.zero_le _, Nat.zero_le _, rfl, rfl, Grew.refl _⟩
  case round =>
    obtain ⟨k, hk, hkb, rfl, hc, hg⟩ := hrel
    have HC := Lib.hid hc
    clear hc
    by_cases hlt : k < a.length
    · obtain ⟨b1, o1, rfl, c0, c1, c2⟩ := vals_at (ha.keep (keeps_below hg.below)) (List.getElem?_eq_getElem hlt)
      by_cases hlb : k < b.length
      · obtain ⟨b2, o2, rfl, d0, d1, d2⟩ := vals_at (hb.keep (keeps_below hg.below)) (List.getElem?_eq_getElem hlb)
        have hne : ((k : Int) == b.length) = false := by rw [beq_eq_false_iff_ne]; omega
        obtain ⟨r, hr⟩ : ∃ r, cmpV a[k] b[k] = r := ⟨_, rfl⟩
        have HN1 := Lib.hid (fun h0 : cmpV a[k] b[k] = 0 => cmpL_next hlt hlb HC.out h0)
        have HN2 := Lib.hid (fun h0 : ¬ cmpV a[k] b[k] = 0 => cmpL_other hlt hlb HC.out h0)
        rw [hr] at HN1 HN2
        obtain ⟨x, hx⟩ : ∃ x, x = a[k] := ⟨_, rfl⟩
        obtain ⟨y, hy⟩ : ∃ y, y = b[k] := ⟨_, rfl⟩
        rw [← hx] at c0 c1 c2 hr
        rw [← hy] at d0 d1 d2 hr
        clear hx hy
        have HRR := Lib.hid hr
        clear hr
        go_upto_region 6 with fail
        obtain ⟨e0, e1, e2⟩ := cells3 wr (.int .i64 x.t) (.int .i64 x.n) (strV x.s) 58
        have bB := below_new wr (.cells #[.int .i64 x.t, .int .i64 x.n, strV x.s] 58)
        have gB := hg.alloc (.cells #[.int .i64 x.t, .int .i64 x.n, strV x.s] 58)
        replace d0 := cell_keep bB d0
        replace d1 := cell_keep bB d1
        replace d2 := cell_keep bB d2
        obtain ⟨wB, hwB⟩ : ∃ x1 : World, x1 = wr.alloc (.cells #[.int .i64 x.t, .int .i64 x.n, strV x.s] 58) := ⟨_, rfl⟩
        rw [← hwB] at d0 d1 d2 e0 e1 e2 gB
        rw [← hwB]
        clear hwB bB c0 c1 c2
        replace d0 := After.cell d0
        replace d1 := After.cell d1
        replace d2 := After.cell d2
        replace e0 := After.cell e0
        replace e1 := After.cell e1
        replace e2 := After.cell e2
        refine wp_region_after (by kernel_rfl) (by kernel_rfl) ?_
        repeat (quiet_step ((go_at_call 67; exact After.call (Compare_any x y _))))
        refine wpQuiet_nil ?_
        intro w2 hg2
        rw [HRR.out]
        have g2 := gB.trans hg2
        by_cases h0 : r = 0
        · have HN := Lib.hid (HN1.out h0)
          subst h0
          clear HN1 HN2 e0 e1 e2 d0 d1 d2
          go_wp2
          go_roundw
          case rel => exact ⟨k + 1, by omega, by omega, by go_num, HN.out, g2⟩
          case measure => simp [intOf]; omega
        · have HN := Lib.hid (HN2.out h0)
          have hr0 : (r != 0) = true := by simpa using h0
          clear HN1 HN2 h0 e0 e1 e2 d0 d1 d2
          go_wp2
          go_ret
          exact ⟨by rw [show cmpT a b = r from HN.out]; rfl, g2⟩
      · have hkl : k = b.length := by omega
        have hn := Lib.hid (cmpL_long hlt hkl HC.out)
        have hne : ((k : Int) == b.length) = true := by rw [beq_iff_eq]; omega
        generalize a[k] = x at *
        clear hkl
        go_wp2
        go_ret
        exact ⟨by rw [show cmpT a b = 1 from hn.out]; rfl, hg.alloc _⟩
    · have hn := Lib.hid (cmpL_end (f := cmpV) (show k = a.length by omega) hkb HC.out)
      go_wp2_with fail
      refine (cmpI_any _ _ _).mono ?_
      rintro e w1 ⟨rfl, rfl⟩
      rw [hn.out]
      go_wp2
      go_ret
      exact ⟨rfl, hg⟩
theorem CompareTuple_any (va vb : Value) (a b : Tp) (w : World) (ha : IsVals w va a) (hb : IsVals w vb b) :
    Calls Tryd.prog 77 #[va, vb] w fun e w' => e = .returned (.int .i64 (cmpT a b)) ∧ Grew w w' := by
  go_enter Tryd.func77, Tryd.ntmps77
  go_wp2_with fail
  refine (listsV_any va vb a b _ ha hb).mono ?_
  rintro e w1 ⟨rfl, hg⟩
  go_wp2
  go_ret
  exact ⟨rfl, hg⟩
end Go.Proofs.YtdibijhaiaiifaaDoor
