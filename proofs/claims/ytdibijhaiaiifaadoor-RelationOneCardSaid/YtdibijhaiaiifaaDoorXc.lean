/- The walks of the reference's comparisons of values. -/
import Derived.Test.YtdibijhaiaiifaaDoorXb
namespace Go.Proofs.YtdibijhaiaiifaaDoor
open Go.RowKit
theorem ints_any (a b : Int) (w : World) : Calls Tryd.prog 94 #[.int .i64 a, .int .i64 b] w fun e w' => e = .returned (.int .i64 (cmpI a b)) ∧ w = w' := by
  obtain ⟨r, hr⟩ : ∃ r, cmpI a b = r := ⟨_, rfl⟩
  rw [hr]
  by_cases h1 : a < b
  · have : r = -1 := by rw [← hr]; simp [cmpI, h1]
    subst this
    clear hr
    go_enter Tryd.func94, Tryd.ntmps94
    go_wp2
    go_ret
    exact ⟨rfl, rfl⟩
  · by_cases h2 : b < a
    · have : r = 1 := by rw [← hr]; simp [cmpI, h1, h2]
      subst this
      clear hr
      go_enter Tryd.func94, Tryd.ntmps94
      go_wp2
      go_ret
      exact ⟨rfl, rfl⟩
    · have : r = 0 := by rw [← hr]; simp [cmpI, h1, h2]
      subst this
      clear hr
      go_enter Tryd.func94, Tryd.ntmps94
      go_wp2
      go_ret
      exact ⟨rfl, rfl⟩
section
variable {α : Type} {f : α → α → Int}
/-- Both at hand or one at its end: the lengths decide. -/
theorem cmpL_over {a b : List α} {k : Nat} (hk : k ≤ a.length) (hb : k ≤ b.length) (ho : ¬ (k < a.length ∧ k < b.length)) (h : cmpL f (a.drop k) (b.drop k) = cmpL f a b) : cmpI a.length b.length = cmpL f a b := by
  by_cases h1 : k < a.length
  · have hkb : k = b.length := by omega
    rw [cmpL_long h1 hkb h, cmpI, if_neg (by omega), if_pos (by omega)]
  · exact cmpL_end (by omega) hb h
end
theorem wrap8 (x : UInt8) : IntKind.i64.wrap (x.toNat : Int) = (x.toNat : Int) := by
  have := x.toNat_lt
  rw [IntKind.wrap_i64]; omega
theorem texts_any (a b : List UInt8) (hal : a.length ≤ 9223372036854775807) (w : World) : Calls Tryd.prog 130 #[strV a, strV b] w fun e w' => e = .returned (.int .i64 (cmpL cmpB a b)) ∧ Grew w w' := by
  have sa : (ByteArray.mk a.toArray).size = a.length := by simp [ByteArray.size]
  have sb : (ByteArray.mk b.toArray).size = b.length := by simp [ByteArray.size]
  go_enter Tryd.func130, Tryd.ntmps130
  go_wp2
  go_loopw [5] (fun i wr => ∃ k : Nat, k ≤ a.length ∧ k ≤ b.length ∧ i = .int .i64 k ∧ cmpL cmpB (a.drop k) (b.drop k) = cmpL cmpB a b ∧ Grew w wr) (fun i _ => a.length - (intOf i).toNat)
  case atStart => exact ⟨0, Nat.zero_le _, Nat.zero_le _, rfl, rfl, Grew.refl _⟩
  case round =>
    obtain ⟨k, hk, hkb, rfl, hc, hg⟩ := hrel
    have HC := Lib.hid hc
    clear hc
    by_cases hlt : k < a.length
    · by_cases hlb : k < b.length
      · have ta : k < (ByteArray.mk a.toArray).size := by rw [sa]; exact hlt
        have tb : k < (ByteArray.mk b.toArray).size := by rw [sb]; exact hlb
        go_upto_region 4 with fail
        go_quiet (fail)
        have ex : (ByteArray.mk a.toArray)[k] = a[k] := rfl
        have ey : (ByteArray.mk b.toArray)[k] = b[k] := rfl
        rw [ex, ey]
        have gq := hg.drewN nq
        obtain ⟨r, hr⟩ : ∃ r, cmpI (a[k].toNat : Int) (b[k].toNat : Int) = r := ⟨_, rfl⟩
        by_cases h0 : r = 0
        · have hn := Lib.hid (cmpL_next hlt hlb HC.out (show cmpB a[k] b[k] = 0 from hr.trans h0))
          have hq : ((a[k].toNat : Int) != (b[k].toNat : Int)) = false := by
            have := (cmpI_is.eq _ _).1 (hr.trans h0)
            rw [this]; simp
          rw [hq]
          clear hq hr h0 ex ey
          go_wp2
          go_roundw
          case rel => exact ⟨k + 1, by omega, by omega, by go_num, hn.out, gq⟩
          case measure => simp [intOf]; omega
        · have hn := Lib.hid (cmpL_other hlt hlb HC.out (show ¬ cmpB a[k] b[k] = 0 from fun e => h0 (hr.symm.trans e)))
          have hE : cmpB a[k] b[k] = r := hr
          rw [hE] at hn
          have hq : ((a[k].toNat : Int) != (b[k].toNat : Int)) = true := by
            rw [bne_iff_ne]; intro e; exact h0 (hr.symm.trans ((cmpI_is.eq _ _).2 e))
          rw [hq]
          have wa : IntKind.i64.wrap ((ByteArray.mk a.toArray)[k].toNat : Int) = (a[k].toNat : Int) := wrap8 _
          have wb : IntKind.i64.wrap ((ByteArray.mk b.toArray)[k].toNat : Int) = (b[k].toNat : Int) := wrap8 _
          clear hq hE ex ey h0
          have HRR := Lib.hid hr
          clear hr
          go_upto_region 5 with fail
          refine wp_region_after (by kernel_rfl) (by kernel_rfl) ?_
          repeat (quiet_step ((go_at_call 94; exact After.call ((ints_any (a[k].toNat : Int) (b[k].toNat : Int) _).mono fun e w' ⟨h1, h2⟩ => ⟨h1, by subst h2; exact Grew.refl _⟩))))
          refine wpQuiet_nil ?_
          intro w2 hg2
          rw [HRR.out]
          have gq2 := gq.trans hg2
          go_wp2
          go_ret
          exact ⟨by rw [hn.out]; rfl, gq2⟩
      · have hn := Lib.hid (cmpL_over (f := cmpB) hk hkb (by omega) HC.out)
        clear HC
        go_wp2_with fail
        refine (ints_any _ _ _).mono ?_
        rintro e w1 ⟨rfl, rfl⟩
        rw [hn.out]
        go_wp2
        go_ret
        exact ⟨rfl, hg⟩
    · have hn := Lib.hid (cmpL_over (f := cmpB) hk hkb (by omega) HC.out)
      clear HC
      go_wp2_with fail
      refine (ints_any _ _ _).mono ?_
      rintro e w1 ⟨rfl, rfl⟩
      rw [hn.out]
      go_wp2
      go_ret
      exact ⟨rfl, hg⟩
set_option maxHeartbeats 1000000 in
theorem rCompare_any (a b : Vl) (w : World) : Calls Tryd.prog 93 #[valV a, valV b] w fun e w' => e = .returned (.int .i64 (cmpV a b)) ∧ Grew w w' := by
  obtain ⟨ta, an, sa, hal⟩ := a
  obtain ⟨tb, bn, sb, hbl⟩ := b
  unfold valV
  obtain ⟨r, hr⟩ : ∃ r, cmpI ta tb = r := ⟨_, rfl⟩
  obtain ⟨q, hq⟩ : ∃ q, cmpI an bn = q := ⟨_, rfl⟩
  have b1 : Grew w ((w.alloc (.cells #[.int .i64 ta, .int .i64 an, strV sa] 58)).alloc (.cells #[.int .i64 tb, .int .i64 bn, strV sb] 58)) := ((Grew.refl w).alloc _).alloc _
  obtain ⟨x0, x1, x2⟩ := cells3 w (.int .i64 ta) (.int .i64 an) (strV sa) 58
  obtain ⟨y0, y1, y2⟩ := cells3 (w.alloc (.cells #[.int .i64 ta, .int .i64 an, strV sa] 58)) (.int .i64 tb) (.int .i64 bn) (strV sb) 58
  have bb := below_new (w.alloc (.cells #[.int .i64 ta, .int .i64 an, strV sa] 58)) (.cells #[.int .i64 tb, .int .i64 bn, strV sb] 58)
  replace x0 := cell_keep bb x0
  replace x1 := cell_keep bb x1
  replace x2 := cell_keep bb x2
  clear bb
  rw [show (w.alloc (.cells #[.int .i64 ta, .int .i64 an, strV sa] 58)).heap.size = w.heap.size + 1 by simp] at y0 y1 y2
  go_enter Tryd.func93, Tryd.ntmps93
  go_upto_region 1 with fail
  obtain ⟨w0, hw0⟩ : ∃ x : World, x = (w.alloc (.cells #[.int .i64 ta, .int .i64 an, strV sa] 58)).alloc (.cells #[.int .i64 tb, .int .i64 bn, strV sb] 58) := ⟨_, rfl⟩
  rw [← hw0] at x0 x1 x2 y0 y1 y2 b1
  rw [← hw0]
  clear hw0
  by_cases h0 : r = 0
  · subst h0
    have hA : (ta != tb) = false := by simpa using (cmpI_is.eq _ _).1 hr
    by_cases h1 : q = 0
    · subst h1
      have hB : (an != bn) = false := by simpa using (cmpI_is.eq _ _).1 hq
      have HR := Lib.hid (cmpV_three (a := ⟨ta, an, sa, hal⟩) (b := ⟨tb, bn, sb, hbl⟩) hr hq)
      clear hr hq
      go_wp2_with fail
      refine (texts_any sa sb hal _).mono ?_
      rintro e w3 ⟨rfl, hg⟩
      rw [← HR.out]
      go_wp2
      go_ret
      exact ⟨rfl, b1.trans hg⟩
    · have hB : (an != bn) = true := by rw [bne_iff_ne]; intro e; exact h1 (hq.symm.trans ((cmpI_is.eq _ _).2 e))
      have HR := Lib.hid (cmpV_two (a := ⟨ta, an, sa, hal⟩) (b := ⟨tb, bn, sb, hbl⟩) hr hq h1)
      have HQ := Lib.hid hq
      clear hr hq h1
      go_wp2_with fail
      refine (ints_any _ _ _).mono ?_
      rintro e w3 ⟨rfl, rfl⟩
      rw [HQ.out]
      go_wp2
      go_ret
      exact ⟨by rw [HR.out]; rfl, b1⟩
  · have hA : (ta != tb) = true := by rw [bne_iff_ne]; intro e; exact h0 (hr.symm.trans ((cmpI_is.eq _ _).2 e))
    have HR := Lib.hid (cmpV_one (a := ⟨ta, an, sa, hal⟩) (b := ⟨tb, bn, sb, hbl⟩) hr h0)
    have HQ := Lib.hid hr
    clear hr hq h0
    go_wp2_with fail
    refine (ints_any _ _ _).mono ?_
    rintro e w3 ⟨rfl, rfl⟩
    rw [HQ.out]
    go_wp2
    go_ret
    exact ⟨by rw [HR.out]; rfl, b1⟩
set_option maxHeartbeats 1000000 in
theorem rCompareTuple_any (va vb : Value) (a b : Tp) (w : World) (ha : IsVals w va a) (hb : IsVals w vb b) :
    Calls Tryd.prog 42 #[va, vb] w fun e w' => e = .returned (.int .i64 (cmpT a b)) ∧ Grew w w' := by
  obtain ⟨pa, ca, rfl, ha, hma⟩ := ha
  obtain ⟨pb, cb, rfl, hb, hmb⟩ := hb
  go_enter Tryd.func42, Tryd.ntmps42
  go_wp2
  go_loopw [5, 6] (fun i _ wr => ∃ k : Nat, k ≤ a.length ∧ k ≤ b.length ∧ i = .int .i64 k ∧ cmpL cmpV (a.drop k) (b.drop k) = cmpT a b ∧ Grew w wr) (fun i _ _ => a.length - (intOf i).toNat)
  case atStart => exact ⟨0, Nat.zero_le _, Nat.zero_le _, rfl, rfl, Grew.refl _⟩
  case round =>
    obtain ⟨k, hk, hkb, rfl, hc, hg⟩ := hrel
    have HC := Lib.hid hc
    clear hc
    by_cases hlt : k < a.length
    · by_cases hlb : k < b.length
      · obtain ⟨b1, o1, rfl, c0, c1, c2⟩ := vals_at (ha.keep (keeps_below hg.below)) (List.getElem?_eq_getElem hlt)
        obtain ⟨b2, o2, rfl, d0, d1, d2⟩ := vals_at (hb.keep (keeps_below hg.below)) (List.getElem?_eq_getElem hlb)
        obtain ⟨r, hr⟩ : ∃ r, cmpV a[k] b[k] = r := ⟨_, rfl⟩
        have HN1 := Lib.hid (fun h0 : cmpV a[k] b[k] = 0 => cmpL_next hlt hlb HC.out h0)
        have HN2 := Lib.hid (fun h0 : ¬ cmpV a[k] b[k] = 0 => cmpL_other hlt hlb HC.out h0)
        rw [hr] at HN1 HN2
        obtain ⟨x, hx⟩ : ∃ x, x = a[k] := ⟨_, rfl⟩
        obtain ⟨y, hy⟩ : ∃ y, y = b[k] := ⟨_, rfl⟩
        rw [← hx] at c0 c1 c2 hr
        rw [← hy] at d0 d1 d2 hr
        clear hx hy
        have HRR := Lib.hid hr
        clear hr
        replace d0 := After.cell d0
        replace d1 := After.cell d1
        replace d2 := After.cell d2
        replace c0 := After.cell c0
        replace c1 := After.cell c1
        replace c2 := After.cell c2
        go_upto_region 4 with fail
        refine wp_region_after (by kernel_rfl) (by kernel_rfl) ?_
        repeat (quiet_step ((go_at_call 93; exact After.call (rCompare_any x y _))))
        refine wpQuiet_nil ?_
        intro w2 hg2
        rw [HRR.out]
        have g2 := hg.trans hg2
        by_cases h0 : r = 0
        · have HN := Lib.hid (HN1.out h0)
          subst h0
          clear HN1 HN2 c0 c1 c2 d0 d1 d2
          go_wp2
          go_roundw
          case rel => exact ⟨k + 1, by omega, by omega, by go_num, HN.out, g2⟩
          case measure => simp [intOf]; omega
        · have HN := Lib.hid (HN2.out h0)
          have hr0 : (r != 0) = true := by simpa using h0
          clear HN1 HN2 h0 c0 c1 c2 d0 d1 d2
          go_wp2
          go_ret
          exact ⟨by rw [show cmpT a b = r from HN.out]; rfl, g2⟩
      · have hn := Lib.hid (cmpL_over (f := cmpV) hk hkb (by omega) HC.out)
        clear HC
        go_wp2_with fail
        refine (ints_any _ _ _).mono ?_
        rintro e w1 ⟨rfl, rfl⟩
        rw [hn.out]
        go_wp2
        go_ret
        exact ⟨rfl, hg⟩
    · have hn := Lib.hid (cmpL_over (f := cmpV) hk hkb (by omega) HC.out)
      clear HC
      go_wp2_with fail
      refine (ints_any _ _ _).mono ?_
      rintro e w1 ⟨rfl, rfl⟩
      rw [hn.out]
      go_wp2
      go_ret
      exact ⟨rfl, hg⟩
end Go.Proofs.YtdibijhaiaiifaaDoor
