/- The law LogMatchesReference. -/
import Derived.Test.YtcembocnkndlhaaJ6
import Derived.Test.YtcembocnkndlhaaJ7
import Derived.Test.YtcembocnkndlhaaJ8
namespace Go.Proofs.Ytcembocnkndlhaa
open Go.RowKit
theorem rrecords_tu {v : Value} {d : Dk} {k : Int} {L : List (List UInt8)} {w : World} {Q : Ending → World → Prop} (h : IsDisk w v d) (hr : Hid (recordsD d k = L)) (q : ∀ u w', IsPages w' u L → Below w.heap.size w w' → Q (.returned u) w') : Calls Try.prog 50 #[v, .int .i64 k] w Q :=
  (rRecords_any v d k w h).mono fun e w' ⟨u, he, hT, hB⟩ => by
    subst he
    rw [hr.out] at hT
    exact q u w' hT hB
theorem rend_ts {v : Value} {d : Dk} {k r : Int} {w : World} {Q : Ending → World → Prop} (h : IsDisk w v d) (hr : Hid (endD d k = r)) (q : ∀ w', Below w.heap.size w w' → Q (.returned (.int .i64 r)) w') : Calls Try.prog 51 #[v, .int .i64 k] w Q :=
  (rEnd_any v d k w h).mono fun e w' ⟨he, hB⟩ => by
    subst he
    rw [hr.out]
    exact q w' hB
theorem rsum_ts {v : Value} {l : List UInt8} {s : Int} {w : World} {Q : Ending → World → Prop} (h : IsBytes w v l) (hs : Hid ((sumN l : Int) = s)) (q : Q (.returned (.int .u32 s)) w) : Calls Try.prog 52 #[v] w Q :=
  (rSum_any v l w h).mono fun e w' ⟨he, hw⟩ => by
    subst he hw
    rw [hs.out]
    exact q
theorem rpagesI_ts {v : Value} {l : List UInt8} {s : Int} {w : World} {Q : Ending → World → Prop} (h : IsBytes w v l) (hl : l.length ≤ 1000000) (hs : Hid ((pagesN l.length : Int) = s)) (q : Q (.returned (.int .i64 s)) w) : Calls Try.prog 53 #[v] w Q :=
  (rPages_any v l w h (by omega)).mono fun e w' ⟨he, hw⟩ => by
    subst he hw
    rw [hs.out]
    exact q
theorem fits_parts {d : Dk} {l : List UInt8} (h : fitsD d l = true) : d.writes.length ≤ 24 ∧ d.pages.length ≤ 24 ∧ l.length ≤ 300 := by
  unfold fitsD smallD at h
  simp at h
  exact ⟨h.1.1.1.2, h.1.1.1.1, h.2⟩
set_option maxHeartbeats 16000000 in
set_option maxRecDepth 100000 in
theorem law13_any (v : Value) (d : Dk) (k : Int) (bv : Value) (l : List UInt8) (w : World) (h0 : IsDisk w v d) (t0 : IsBytes w bv l) : Calls Try.prog 13 #[v, .int .i64 k, bv] w fun e w' => e = .returned (.bool true) ∧ Below w.heap.size w w' := by
  obtain ⟨bpa, bpc, rfl, -, mb⟩ := id t0
  obtain ⟨pa0, pc0, wa0, wc0, rfl, -, -, m1, m2, m3⟩ := h0.shape
  obtain ⟨w1, hB0⟩ : ∃ x : World, x = w.alloc (.cells #[.slice pa0 d.pages.length pc0, .slice wa0 d.writes.length wc0, .bool d.down] 25) := ⟨_, rfl⟩
  have bp : _ ∧ _ := ⟨heap_alloc_new w (.cells #[.slice pa0 d.pages.length pc0, .slice wa0 d.writes.length wc0, .bool d.down] 25), below_new w (.cells #[.slice pa0 d.pages.length pc0, .slice wa0 d.writes.length wc0, .bool d.down] 25)⟩
  rw [← hB0] at bp
  obtain ⟨g0, bN⟩ := bp
  replace h0 := h0.keep bN
  replace t0 := t0.keep bN
  have b0 := bN
  clear bN
  go_enter Try.func13, Try.ntmps13
  go_wp2_with fail
  rw [← hB0]
  clear hB0
  refine (head36_any _).mono ?_
  intro e w2 hres
  obtain ⟨rfl, bN⟩ := hres
  replace g0 := block_keep g0 bN
  replace h0 := h0.keep bN
  replace t0 := t0.keep bN
  replace b0 := below_trans b0 bN
  clear bN
  obtain ⟨y00, y01, y02, f00, f01, f02⟩ := Box3.of g0
  go_wp2_with fail
  refine (fits_any _ _ d l _ h0 t0).mono ?_
  rintro e w9 ⟨rfl, bN⟩
  clear y00 y01 y02 f00 f01 f02
  replace g0 := block_keep g0 bN
  replace h0 := h0.keep bN
  replace t0 := t0.keep bN
  replace b0 := below_trans b0 bN
  clear bN
  cases hfi : fitsD d l
  · go_wp2
    go_ret
    exact ⟨rfl, b0⟩
  obtain ⟨hwl, hpl, hl3⟩ := fits_parts hfi
  clear hfi
  obtain ⟨xd, hx⟩ : ∃ x, (appendD d k l).1 = x := ⟨_, rfl⟩
  obtain ⟨ex, he⟩ : ∃ x, (appendD d k l).2 = x := ⟨_, rfl⟩
  have HA := Lib.hid (show appendD d k l = (xd, ex) from Prod.ext hx he)
  clear hx he
  obtain ⟨yd, hx⟩ : ∃ x, (writeD d k []).1 = x := ⟨_, rfl⟩
  obtain ⟨ey, he⟩ : ∃ x, (writeD d k []).2 = x := ⟨_, rfl⟩
  have HW := Lib.hid (show writeD d k [] = (yd, ey) from Prod.ext hx he)
  clear hx he
  obtain ⟨L, hL⟩ : ∃ L, recordsD d k = L := ⟨_, rfl⟩
  have HL := Lib.hid hL
  obtain ⟨E, hE⟩ : ∃ E, endD d k = E := ⟨_, rfl⟩
  have HE := Lib.hid hE
  obtain ⟨s, hs⟩ : ∃ s : Int, (sumN l : Int) = s := ⟨_, rfl⟩
  have HSM := Lib.hid hs
  obtain ⟨pn, hpn⟩ : ∃ s : Int, (pagesN l.length : Int) = s := ⟨_, rfl⟩
  have HPN := Lib.hid hpn
  have hl6 : l.length ≤ 1000000 := by omega
  clear hL hE hs hpn
  go_upto_region 4 with fail
  obtain ⟨y00, y01, y02, f00, f01, f02⟩ := Box3.of g0
  go_wp2_with fail
  refine (Append_any _ d k _ l _ h0 t0 (by omega) (by omega)).mono ?_
  intro e w10 hres
  obtain ⟨pa1, pc1, wa1, wc1, rfl, h1, bN⟩ := hres.to HA
  clear y00 y01 y02 f00 f01 f02
  replace g0 := block_keep g0 bN
  replace h0 := h0.keep bN
  replace t0 := t0.keep bN
  replace b0 := below_trans b0 bN
  clear bN
  obtain ⟨w11, hB1⟩ : ∃ x : World, x = w10.alloc (.cells #[(.slice pa1 xd.pages.length pc1), (.slice wa1 xd.writes.length wc1), (.bool xd.down)] 25) := ⟨_, rfl⟩
  have bp : _ ∧ _ := ⟨heap_alloc_new w10 (.cells #[(.slice pa1 xd.pages.length pc1), (.slice wa1 xd.writes.length wc1), (.bool xd.down)] 25), below_new w10 (.cells #[(.slice pa1 xd.pages.length pc1), (.slice wa1 xd.writes.length wc1), (.bool xd.down)] 25)⟩
  rw [← hB1] at bp
  obtain ⟨g1, bN⟩ := bp
  replace g0 := block_keep g0 bN
  replace h0 := h0.keep bN
  replace h1 := h1.keep bN
  replace t0 := t0.keep bN
  replace b0 := below_trans b0 bN
  clear bN
  go_upto_region 5 with fail
  rw [← hB1]
  clear hB1
  obtain ⟨y00, y01, y02, f00, f01, f02⟩ := Box3.of g0
  go_wp2_with fail
  refine (rAppend_any _ d k _ l _ h0 t0 (by omega) (by omega)).mono ?_
  intro e w12 hres
  obtain ⟨pa2, pc2, wa2, wc2, rfl, h2, bN⟩ := hres.to HA
  clear y00 y01 y02 f00 f01 f02
  replace g0 := block_keep g0 bN
  replace g1 := block_keep g1 bN
  replace h0 := h0.keep bN
  replace h1 := h1.keep bN
  replace t0 := t0.keep bN
  replace b0 := below_trans b0 bN
  clear bN
  obtain ⟨w13, hB2⟩ : ∃ x : World, x = w12.alloc (.cells #[(.slice pa2 xd.pages.length pc2), (.slice wa2 xd.writes.length wc2), (.bool xd.down)] 25) := ⟨_, rfl⟩
  have bp : _ ∧ _ := ⟨heap_alloc_new w12 (.cells #[(.slice pa2 xd.pages.length pc2), (.slice wa2 xd.writes.length wc2), (.bool xd.down)] 25), below_new w12 (.cells #[(.slice pa2 xd.pages.length pc2), (.slice wa2 xd.writes.length wc2), (.bool xd.down)] 25)⟩
  rw [← hB2] at bp
  obtain ⟨g2, bN⟩ := bp
  replace g0 := block_keep g0 bN
  replace g1 := block_keep g1 bN
  replace h0 := h0.keep bN
  replace h1 := h1.keep bN
  replace h2 := h2.keep bN
  replace t0 := t0.keep bN
  replace b0 := below_trans b0 bN
  clear bN
  go_upto_region 6 with fail
  rw [← hB2]
  clear hB2
  obtain ⟨y00, y01, y02, f00, f01, f02⟩ := Box3.of g0
  go_wp2_with fail
  refine (Clear_any _ d k _ h0 (by omega)).mono ?_
  intro e w14 hres
  obtain ⟨pa3, pc3, wa3, wc3, rfl, h3, bN⟩ := hres.to HW
  clear y00 y01 y02 f00 f01 f02
  replace g0 := block_keep g0 bN
  replace g1 := block_keep g1 bN
  replace g2 := block_keep g2 bN
  replace h0 := h0.keep bN
  replace h1 := h1.keep bN
  replace h2 := h2.keep bN
  replace t0 := t0.keep bN
  replace b0 := below_trans b0 bN
  clear bN
  obtain ⟨w15, hB3⟩ : ∃ x : World, x = w14.alloc (.cells #[(.slice pa3 yd.pages.length pc3), (.slice wa3 yd.writes.length wc3), (.bool yd.down)] 25) := ⟨_, rfl⟩
  have bp : _ ∧ _ := ⟨heap_alloc_new w14 (.cells #[(.slice pa3 yd.pages.length pc3), (.slice wa3 yd.writes.length wc3), (.bool yd.down)] 25), below_new w14 (.cells #[(.slice pa3 yd.pages.length pc3), (.slice wa3 yd.writes.length wc3), (.bool yd.down)] 25)⟩
  rw [← hB3] at bp
  obtain ⟨g3, bN⟩ := bp
  replace g0 := block_keep g0 bN
  replace g1 := block_keep g1 bN
  replace g2 := block_keep g2 bN
  replace h0 := h0.keep bN
  replace h1 := h1.keep bN
  replace h2 := h2.keep bN
  replace h3 := h3.keep bN
  replace t0 := t0.keep bN
  replace b0 := below_trans b0 bN
  clear bN
  go_upto_region 7 with fail
  rw [← hB3]
  clear hB3
  obtain ⟨y00, y01, y02, f00, f01, f02⟩ := Box3.of g0
  go_wp2_with fail
  refine (rClear_any _ d k _ h0 (by omega)).mono ?_
  intro e w16 hres
  obtain ⟨pa4, pc4, wa4, wc4, rfl, h4, bN⟩ := hres.to HW
  clear y00 y01 y02 f00 f01 f02
  replace g0 := block_keep g0 bN
  replace g1 := block_keep g1 bN
  replace g2 := block_keep g2 bN
  replace g3 := block_keep g3 bN
  replace h0 := h0.keep bN
  replace h1 := h1.keep bN
  replace h2 := h2.keep bN
  replace h3 := h3.keep bN
  replace t0 := t0.keep bN
  replace b0 := below_trans b0 bN
  clear bN
  obtain ⟨w17, hB4⟩ : ∃ x : World, x = w16.alloc (.cells #[(.slice pa4 yd.pages.length pc4), (.slice wa4 yd.writes.length wc4), (.bool yd.down)] 25) := ⟨_, rfl⟩
  have bp : _ ∧ _ := ⟨heap_alloc_new w16 (.cells #[(.slice pa4 yd.pages.length pc4), (.slice wa4 yd.writes.length wc4), (.bool yd.down)] 25), below_new w16 (.cells #[(.slice pa4 yd.pages.length pc4), (.slice wa4 yd.writes.length wc4), (.bool yd.down)] 25)⟩
  rw [← hB4] at bp
  obtain ⟨g4, bN⟩ := bp
  replace g0 := block_keep g0 bN
  replace g1 := block_keep g1 bN
  replace g2 := block_keep g2 bN
  replace g3 := block_keep g3 bN
  replace h0 := h0.keep bN
  replace h1 := h1.keep bN
  replace h2 := h2.keep bN
  replace h3 := h3.keep bN
  replace h4 := h4.keep bN
  replace t0 := t0.keep bN
  replace b0 := below_trans b0 bN
  clear bN
  go_upto_region 8 with fail
  rw [← hB4]
  clear hB4
  have HS : ∀ w', Below w17.heap.size w17 w' → w'.cell? ⟨w10.heap.size, 0, none⟩ = some (.slice pa1 xd.pages.length pc1) ∧ w'.cell? ⟨w10.heap.size, 1, none⟩ = some (.slice wa1 xd.writes.length wc1) ∧ w'.cell? ⟨w10.heap.size, 2, none⟩ = some (.bool xd.down) ∧ w'.cell? ⟨w12.heap.size, 0, none⟩ = some (.slice pa2 xd.pages.length pc2) ∧ w'.cell? ⟨w12.heap.size, 1, none⟩ = some (.slice wa2 xd.writes.length wc2) ∧ w'.cell? ⟨w12.heap.size, 2, none⟩ = some (.bool xd.down) ∧ w'.cell? ⟨w14.heap.size, 0, none⟩ = some (.slice pa3 yd.pages.length pc3) ∧ w'.cell? ⟨w14.heap.size, 1, none⟩ = some (.slice wa3 yd.writes.length wc3) ∧ w'.cell? ⟨w14.heap.size, 2, none⟩ = some (.bool yd.down) ∧ w'.cell? ⟨w16.heap.size, 0, none⟩ = some (.slice pa4 yd.pages.length pc4) ∧ w'.cell? ⟨w16.heap.size, 1, none⟩ = some (.slice wa4 yd.writes.length wc4) ∧ w'.cell? ⟨w16.heap.size, 2, none⟩ = some (.bool yd.down) ∧ w'.cell? ⟨w.heap.size, 0, none⟩ = some (.slice pa0 d.pages.length pc0) ∧ w'.cell? ⟨w.heap.size, 1, none⟩ = some (.slice wa0 d.writes.length wc0) ∧ w'.cell? ⟨w.heap.size, 2, none⟩ = some (.bool d.down) := fun w' hb => ⟨(Box3.of (block_keep g1 hb)).c0, (Box3.of (block_keep g1 hb)).c1, (Box3.of (block_keep g1 hb)).c2, (Box3.of (block_keep g2 hb)).c0, (Box3.of (block_keep g2 hb)).c1, (Box3.of (block_keep g2 hb)).c2, (Box3.of (block_keep g3 hb)).c0, (Box3.of (block_keep g3 hb)).c1, (Box3.of (block_keep g3 hb)).c2, (Box3.of (block_keep g4 hb)).c0, (Box3.of (block_keep g4 hb)).c1, (Box3.of (block_keep g4 hb)).c2, (Box3.of (block_keep g0 hb)).c0, (Box3.of (block_keep g0 hb)).c1, (Box3.of (block_keep g0 hb)).c2⟩
  go_region_held3 (fun w' => w'.cell? ⟨w10.heap.size, 0, none⟩ = some (.slice pa1 xd.pages.length pc1) ∧ w'.cell? ⟨w10.heap.size, 1, none⟩ = some (.slice wa1 xd.writes.length wc1) ∧ w'.cell? ⟨w10.heap.size, 2, none⟩ = some (.bool xd.down) ∧ w'.cell? ⟨w12.heap.size, 0, none⟩ = some (.slice pa2 xd.pages.length pc2) ∧ w'.cell? ⟨w12.heap.size, 1, none⟩ = some (.slice wa2 xd.writes.length wc2) ∧ w'.cell? ⟨w12.heap.size, 2, none⟩ = some (.bool xd.down) ∧ w'.cell? ⟨w14.heap.size, 0, none⟩ = some (.slice pa3 yd.pages.length pc3) ∧ w'.cell? ⟨w14.heap.size, 1, none⟩ = some (.slice wa3 yd.writes.length wc3) ∧ w'.cell? ⟨w14.heap.size, 2, none⟩ = some (.bool yd.down) ∧ w'.cell? ⟨w16.heap.size, 0, none⟩ = some (.slice pa4 yd.pages.length pc4) ∧ w'.cell? ⟨w16.heap.size, 1, none⟩ = some (.slice wa4 yd.writes.length wc4) ∧ w'.cell? ⟨w16.heap.size, 2, none⟩ = some (.bool yd.down) ∧ w'.cell? ⟨w.heap.size, 0, none⟩ = some (.slice pa0 d.pages.length pc0) ∧ w'.cell? ⟨w.heap.size, 1, none⟩ = some (.slice wa0 d.writes.length wc0) ∧ w'.cell? ⟨w.heap.size, 2, none⟩ = some (.bool d.down))
    (first | exact HS _ (by with_reducible (repeat (first | assumption | exact Below.refl _ _ | refine below_alloc' ?_ | refine below_drew' ?_ | refine below_step (by assumption) ?_))))
    (first
      | (go_at_call 21; refine same_ts (a := xd) (b := xd) (IsDisk.keep h1 (by with_reducible (repeat (first | assumption | exact Below.refl _ _ | refine below_alloc' ?_ | refine below_drew' ?_ | refine below_step (by assumption) ?_)))) (IsDisk.keep h2 (by with_reducible (repeat (first | assumption | exact Below.refl _ _ | refine below_alloc' ?_ | refine below_drew' ?_ | refine below_step (by assumption) ?_)))) (Lib.hid rfl) ?_; intro wq1 bq1)
      | (go_at_call 21; refine same_ts (a := yd) (b := yd) (IsDisk.keep h3 (by with_reducible (repeat (first | assumption | exact Below.refl _ _ | refine below_alloc' ?_ | refine below_drew' ?_ | refine below_step (by assumption) ?_)))) (IsDisk.keep h4 (by with_reducible (repeat (first | assumption | exact Below.refl _ _ | refine below_alloc' ?_ | refine below_drew' ?_ | refine below_step (by assumption) ?_)))) (Lib.hid rfl) ?_; intro wq2 bq2)
      | (go_at_call 41; refine records_tu (IsDisk.keep h0 (by with_reducible (repeat (first | assumption | exact Below.refl _ _ | refine below_alloc' ?_ | refine below_drew' ?_ | refine below_step (by assumption) ?_)))) HL ?_; intro u7 wq7 p7 bq7)
      | (go_at_call 50; refine rrecords_tu (IsDisk.keep h0 (by with_reducible (repeat (first | assumption | exact Below.refl _ _ | refine below_alloc' ?_ | refine below_drew' ?_ | refine below_step (by assumption) ?_)))) HL ?_; intro u8 wq8 p8 bq8)
      | (go_at_call 45; refine rsame_ts (IsPages.keep p7 (by with_reducible (repeat (first | assumption | exact Below.refl _ _ | refine below_alloc' ?_ | refine below_drew' ?_ | refine below_step (by assumption) ?_)))) (IsPages.keep p8 (by with_reducible (repeat (first | assumption | exact Below.refl _ _ | refine below_alloc' ?_ | refine below_drew' ?_ | refine below_step (by assumption) ?_)))) (Lib.hid rfl) ?_; intro wq9 bq9)
      | (go_at_call 42; refine end_ts (IsDisk.keep h0 (by with_reducible (repeat (first | assumption | exact Below.refl _ _ | refine below_alloc' ?_ | refine below_drew' ?_ | refine below_step (by assumption) ?_)))) HE ?_; intro wq10 bq10)
      | (go_at_call 51; refine rend_ts (IsDisk.keep h0 (by with_reducible (repeat (first | assumption | exact Below.refl _ _ | refine below_alloc' ?_ | refine below_drew' ?_ | refine below_step (by assumption) ?_)))) HE ?_; intro wq11 bq11)
      | (go_at_call 46; refine sum_ts (IsBytes.keep t0 (by with_reducible (repeat (first | assumption | exact Below.refl _ _ | refine below_alloc' ?_ | refine below_drew' ?_ | refine below_step (by assumption) ?_)))) HSM ?_)
      | (go_at_call 52; refine rsum_ts (IsBytes.keep t0 (by with_reducible (repeat (first | assumption | exact Below.refl _ _ | refine below_alloc' ?_ | refine below_drew' ?_ | refine below_step (by assumption) ?_)))) HSM ?_)
      | (go_at_call 44; refine pagesI_ts (IsBytes.keep t0 (by with_reducible (repeat (first | assumption | exact Below.refl _ _ | refine below_alloc' ?_ | refine below_drew' ?_ | refine below_step (by assumption) ?_)))) hl6 HPN ?_)
      | (go_at_call 53; refine rpagesI_ts (IsBytes.keep t0 (by with_reducible (repeat (first | assumption | exact Below.refl _ _ | refine below_alloc' ?_ | refine below_drew' ?_ | refine below_step (by assumption) ?_)))) hl6 HPN ?_))
  all_goals
    go_wp2
    go_ret
    exact ⟨rfl, below_trans b0 (by with_reducible (repeat (first | assumption | exact Below.refl _ _ | refine below_alloc' ?_ | refine below_drew' ?_ | refine below_step (by assumption) ?_)))⟩
end Go.Proofs.Ytcembocnkndlhaa
