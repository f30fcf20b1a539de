/- The laws' head: fixed examples. -/
import Derived.Test.YtcembocnkndlhaaUc
namespace Go.Proofs.Ytcembocnkndlhaa
open Go.RowKit
theorem begins_to {va vb : Value} {a b : List UInt8} {w : World} (ha : IsBytes w va a) (hb : IsBytes w vb b) (hl : b.length ≤ 64) (h : Hid (a = full b)) :
    Calls Try.prog 55 #[va, vb] w fun e w' => e = .returned (.bool true) ∧ Below w.heap.size w w' := by
  have := begins_any va vb a b w ha hb hl
  rwa [decide_eq_true h.out] at this
theorem head_facts : ∃ (d1 c7 d7 c10 d10 d11 d13 c15 r15 d17 d19 : Dk) (l3 l5 l8 l15 : List UInt8), Hid (writeD noDisk 1 [5, 6] = (d1, 0)) ∧ d1.writes.length ≤ 10 ∧ Hid (readD d1 1 = (l3, 0)) ∧ Hid (l3 = full [5, 6]) ∧ Hid (readD d1 0 = (l5, 0)) ∧ Hid (l5 = full []) ∧ Hid (crashD d1 0 1 = c7) ∧ Hid (restartD c7 = d7) ∧ Hid (readD d7 1 = (l8, 0)) ∧ Hid (l8 = full [5])
    ∧ Hid (crashD d1 0 0 = c10) ∧ Hid (restartD c10 = d10) ∧ Hid (syncD d1 = (d11, 0)) ∧ Hid (writeD d11 1 [7] = (d13, 0)) ∧ d11.writes.length ≤ 10 ∧ Hid (crashD d13 0 1 = c15) ∧ Hid (restartD c15 = r15) ∧ Hid (readD r15 1 = (l15, 0)) ∧ Hid (l15 = full [7, 6])
    ∧ Hid (writeD c10 0 [] = (d17, 350)) ∧ c10.writes.length ≤ 10 ∧ Hid (writeD d1 400 [] = (d19, 1)) ∧ Hid (d10.pages.length = 0) ∧ Hid (d7.pages.length = 2) := by
  refine ⟨(writeD noDisk 1 [5, 6]).1, _, _, _, _, (syncD (writeD noDisk 1 [5, 6]).1).1, (writeD (syncD (writeD noDisk 1 [5, 6]).1).1 1 [7]).1, _, _, (writeD (crashD (writeD noDisk 1 [5, 6]).1 0 0) 0 []).1, (writeD (writeD noDisk 1 [5, 6]).1 400 []).1, (readD (writeD noDisk 1 [5, 6]).1 1).1, (readD (writeD noDisk 1 [5, 6]).1 0).1, (readD (restartD (crashD (writeD noDisk 1 [5, 6]).1 0 1)) 1).1, (readD (restartD (crashD (writeD (syncD (writeD noDisk 1 [5, 6]).1).1 1 [7]).1 0 1)) 1).1,
    Lib.hid (Prod.ext rfl (by decide +kernel)), by decide +kernel, Lib.hid (Prod.ext rfl (by decide +kernel)), Lib.hid (by decide +kernel), Lib.hid (Prod.ext rfl (by decide +kernel)), Lib.hid (by decide +kernel), Lib.hid rfl, Lib.hid rfl, Lib.hid (Prod.ext rfl (by decide +kernel)), Lib.hid (by decide +kernel),
    Lib.hid rfl, Lib.hid rfl, Lib.hid (Prod.ext rfl (by decide +kernel)), Lib.hid (Prod.ext rfl (by decide +kernel)), by decide +kernel, Lib.hid rfl, Lib.hid rfl, Lib.hid (Prod.ext rfl (by decide +kernel)), Lib.hid (by decide +kernel),
    Lib.hid (Prod.ext rfl (by decide +kernel)), by decide +kernel, Lib.hid (Prod.ext rfl (by decide +kernel)), Lib.hid (by decide +kernel), Lib.hid (by decide +kernel)⟩
set_option maxHeartbeats 16000000 in
set_option maxRecDepth 100000 in
theorem head_any (w : World) : Calls Try.prog 17 #[] w fun e w' => e = .returned (.bool true) ∧ Below w.heap.size w w' := by
  obtain ⟨d1, c7, d7, c10, d10, d11, d13, c15, r15, d17, d19, l3, l5, l8, l15, H1, n1, H3, E3, H5, E5, C7, R7, H8, E8, C10, R10, H11, H13, n11, C15, R15, H15, E15, H17, n10, H19, N10, N7⟩ := head_facts
  go_enter Try.func17, Try.ntmps17
  go_wp2_with fail
  refine (New_any _).mono ?_
  intro e w1 hres
  obtain ⟨pa0, pc0, wa0, wc0, rfl, h0, bN⟩ := hres.to (Lib.hid rfl)
  have b0 := bN
  clear bN
  go_wp2_with fail
  have hl : IsBytes (w1.alloc (.cells #[.int .u8 5, .int .u8 6] 5)) (.slice (some ⟨w1.heap.size, 0, none⟩) 2 2) [5, 6] := lit_bytes w1 [5, 6] (by decide)
  refine (Write_any _ noDisk 1 _ [5, 6] _ (h0.keep (below_new _ _)) hl (by decide)).mono ?_
  intro e w2 hres
  obtain ⟨pa1, pc1, wa1, wc1, rfl, h1, bN⟩ := hres.to H1
  clear hl
  replace bN := below_trans (below_new w1 (.cells #[.int .u8 5, .int .u8 6] 5)) bN
  replace h0 := h0.keep bN
  replace b0 := below_trans b0 bN
  clear bN
  obtain ⟨w3, hB1⟩ : ∃ x : World, x = w2.alloc (.cells #[(.slice pa1 d1.pages.length pc1), (.slice wa1 d1.writes.length wc1), (.bool d1.down)] 25) := ⟨_, rfl⟩
  have bp : _ ∧ _ := ⟨heap_alloc_new w2 (.cells #[(.slice pa1 d1.pages.length pc1), (.slice wa1 d1.writes.length wc1), (.bool d1.down)] 25), below_new w2 (.cells #[(.slice pa1 d1.pages.length pc1), (.slice wa1 d1.writes.length wc1), (.bool d1.down)] 25)⟩
  rw [← hB1] at bp
  obtain ⟨g1, bN⟩ := bp
  replace h0 := h0.keep bN
  replace h1 := h1.keep bN
  replace b0 := below_trans b0 bN
  clear bN
  go_upto_region 2 with fail
  rw [← hB1]
  clear hB1
  obtain ⟨y0, y1, y2, -, -, -⟩ := Box3.of g1
  go_wp2_with fail
  refine (Read_any _ d1 1 _ h1).mono ?_
  intro e w4 hres
  obtain ⟨pa3, pc3, rfl, t3, bN⟩ := hres.to H3
  clear y0 y1 y2
  replace g1 := block_keep g1 bN
  replace h0 := h0.keep bN
  replace h1 := h1.keep bN
  replace b0 := below_trans b0 bN
  clear bN
  obtain ⟨y0, y1, y2, -, -, -⟩ := Box3.of g1
  go_wp2_with fail
  refine (Read_any _ d1 0 _ h1).mono ?_
  intro e w5 hres
  obtain ⟨pa5, pc5, rfl, t5, bN⟩ := hres.to H5
  clear y0 y1 y2
  replace g1 := block_keep g1 bN
  replace h0 := h0.keep bN
  replace h1 := h1.keep bN
  replace t3 := t3.keep bN
  replace b0 := below_trans b0 bN
  clear bN
  obtain ⟨y0, y1, y2, -, -, -⟩ := Box3.of g1
  go_wp2_with fail
  refine (Crash_any _ d1 0 1 _ h1).mono ?_
  intro e w6 hres
  obtain ⟨pa6, pc6, wa6, wc6, rfl, h6, bN⟩ := hres.to C7
  clear y0 y1 y2
  replace g1 := block_keep g1 bN
  replace h0 := h0.keep bN
  replace h1 := h1.keep bN
  replace t3 := t3.keep bN
  replace t5 := t5.keep bN
  replace b0 := below_trans b0 bN
  clear bN
  go_wp2_with fail
  refine (Restart_any _ c7 _ h6).mono ?_
  intro e w7 hres
  obtain ⟨pa7, pc7, wa7, wc7, rfl, h7, bN⟩ := hres.to R7
  replace g1 := block_keep g1 bN
  replace h0 := h0.keep bN
  replace h1 := h1.keep bN
  replace h6 := h6.keep bN
  replace t3 := t3.keep bN
  replace t5 := t5.keep bN
  replace b0 := below_trans b0 bN
  clear bN
  obtain ⟨w8, hB7⟩ : ∃ x : World, x = w7.alloc (.cells #[(.slice pa7 d7.pages.length pc7), (.slice wa7 d7.writes.length wc7), (.bool d7.down)] 25) := ⟨_, rfl⟩
  have bp : _ ∧ _ := ⟨heap_alloc_new w7 (.cells #[(.slice pa7 d7.pages.length pc7), (.slice wa7 d7.writes.length wc7), (.bool d7.down)] 25), below_new w7 (.cells #[(.slice pa7 d7.pages.length pc7), (.slice wa7 d7.writes.length wc7), (.bool d7.down)] 25)⟩
  rw [← hB7] at bp
  obtain ⟨g7, bN⟩ := bp
  replace g1 := block_keep g1 bN
  replace h0 := h0.keep bN
  replace h1 := h1.keep bN
  replace h6 := h6.keep bN
  replace h7 := h7.keep bN
  replace t3 := t3.keep bN
  replace t5 := t5.keep bN
  replace b0 := below_trans b0 bN
  clear bN
  go_upto_region 5 with fail
  rw [← hB7]
  clear hB7
  obtain ⟨y0, y1, y2, -, -, -⟩ := Box3.of g7
  go_wp2_with fail
  refine (Read_any _ d7 1 _ h7).mono ?_
  intro e w9 hres
  obtain ⟨pa8, pc8, rfl, t8, bN⟩ := hres.to H8
  clear y0 y1 y2
  replace g1 := block_keep g1 bN
  replace g7 := block_keep g7 bN
  replace h0 := h0.keep bN
  replace h1 := h1.keep bN
  replace h6 := h6.keep bN
  replace h7 := h7.keep bN
  replace t3 := t3.keep bN
  replace t5 := t5.keep bN
  replace b0 := below_trans b0 bN
  clear bN
  obtain ⟨y0, y1, y2, -, -, -⟩ := Box3.of g1
  go_wp2_with fail
  refine (Crash_any _ d1 0 0 _ h1).mono ?_
  intro e w10 hres
  obtain ⟨pa9, pc9, wa9, wc9, rfl, h9, bN⟩ := hres.to C10
  clear y0 y1 y2
  replace g1 := block_keep g1 bN
  replace g7 := block_keep g7 bN
  replace h0 := h0.keep bN
  replace h1 := h1.keep bN
  replace h6 := h6.keep bN
  replace h7 := h7.keep bN
  replace t3 := t3.keep bN
  replace t5 := t5.keep bN
  replace t8 := t8.keep bN
  replace b0 := below_trans b0 bN
  clear bN
  go_wp2_with fail
  refine (Restart_any _ c10 _ h9).mono ?_
  intro e w11 hres
  obtain ⟨pa10, pc10, wa10, wc10, rfl, h10, bN⟩ := hres.to R10
  replace g1 := block_keep g1 bN
  replace g7 := block_keep g7 bN
  replace h0 := h0.keep bN
  replace h1 := h1.keep bN
  replace h6 := h6.keep bN
  replace h7 := h7.keep bN
  replace h9 := h9.keep bN
  replace t3 := t3.keep bN
  replace t5 := t5.keep bN
  replace t8 := t8.keep bN
  replace b0 := below_trans b0 bN
  clear bN
  obtain ⟨w12, hB10⟩ : ∃ x : World, x = w11.alloc (.cells #[(.slice pa10 d10.pages.length pc10), (.slice wa10 d10.writes.length wc10), (.bool d10.down)] 25) := ⟨_, rfl⟩
  have bp : _ ∧ _ := ⟨heap_alloc_new w11 (.cells #[(.slice pa10 d10.pages.length pc10), (.slice wa10 d10.writes.length wc10), (.bool d10.down)] 25), below_new w11 (.cells #[(.slice pa10 d10.pages.length pc10), (.slice wa10 d10.writes.length wc10), (.bool d10.down)] 25)⟩
  rw [← hB10] at bp
  obtain ⟨g10, bN⟩ := bp
  replace g1 := block_keep g1 bN
  replace g7 := block_keep g7 bN
  replace h0 := h0.keep bN
  replace h1 := h1.keep bN
  replace h6 := h6.keep bN
  replace h7 := h7.keep bN
  replace h9 := h9.keep bN
  replace h10 := h10.keep bN
  replace t3 := t3.keep bN
  replace t5 := t5.keep bN
  replace t8 := t8.keep bN
  replace b0 := below_trans b0 bN
  clear bN
  go_upto_region 7 with fail
  rw [← hB10]
  clear hB10
  obtain ⟨y0, y1, y2, -, -, -⟩ := Box3.of g1
  go_wp2_with fail
  refine (Sync_any _ d1 _ h1).mono ?_
  intro e w13 hres
  obtain ⟨pa11, pc11, wa11, wc11, rfl, h11, bN⟩ := hres.to H11
  clear y0 y1 y2
  replace g1 := block_keep g1 bN
  replace g7 := block_keep g7 bN
  replace g10 := block_keep g10 bN
  replace h0 := h0.keep bN
  replace h1 := h1.keep bN
  replace h6 := h6.keep bN
  replace h7 := h7.keep bN
  replace h9 := h9.keep bN
  replace h10 := h10.keep bN
  replace t3 := t3.keep bN
  replace t5 := t5.keep bN
  replace t8 := t8.keep bN
  replace b0 := below_trans b0 bN
  clear bN
  obtain ⟨w14, hB11⟩ : ∃ x : World, x = w13.alloc (.cells #[(.slice pa11 d11.pages.length pc11), (.slice wa11 d11.writes.length wc11), (.bool d11.down)] 25) := ⟨_, rfl⟩
  have bp : _ ∧ _ := ⟨heap_alloc_new w13 (.cells #[(.slice pa11 d11.pages.length pc11), (.slice wa11 d11.writes.length wc11), (.bool d11.down)] 25), below_new w13 (.cells #[(.slice pa11 d11.pages.length pc11), (.slice wa11 d11.writes.length wc11), (.bool d11.down)] 25)⟩
  rw [← hB11] at bp
  obtain ⟨g11, bN⟩ := bp
  replace g1 := block_keep g1 bN
  replace g7 := block_keep g7 bN
  replace g10 := block_keep g10 bN
  replace h0 := h0.keep bN
  replace h1 := h1.keep bN
  replace h6 := h6.keep bN
  replace h7 := h7.keep bN
  replace h9 := h9.keep bN
  replace h10 := h10.keep bN
  replace h11 := h11.keep bN
  replace t3 := t3.keep bN
  replace t5 := t5.keep bN
  replace t8 := t8.keep bN
  replace b0 := below_trans b0 bN
  clear bN
  go_upto_region 8 with fail
  rw [← hB11]
  clear hB11
  obtain ⟨y0, y1, y2, -, -, -⟩ := Box3.of g11
  go_wp2_with fail
  have hl : IsBytes (w14.alloc (.cells #[.int .u8 7] 5)) (.slice (some ⟨w14.heap.size, 0, none⟩) 1 1) [7] := lit_bytes w14 [7] (by decide)
  refine (Write_any _ d11 1 _ [7] _ (h11.keep (below_new _ _)) hl (by omega)).mono ?_
  intro e w15 hres
  obtain ⟨pa13, pc13, wa13, wc13, rfl, h13, bN⟩ := hres.to H13
  clear y0 y1 y2
  clear hl
  replace bN := below_trans (below_new w14 (.cells #[.int .u8 7] 5)) bN
  replace g1 := block_keep g1 bN
  replace g7 := block_keep g7 bN
  replace g10 := block_keep g10 bN
  replace g11 := block_keep g11 bN
  replace h0 := h0.keep bN
  replace h1 := h1.keep bN
  replace h6 := h6.keep bN
  replace h7 := h7.keep bN
  replace h9 := h9.keep bN
  replace h10 := h10.keep bN
  replace h11 := h11.keep bN
  replace t3 := t3.keep bN
  replace t5 := t5.keep bN
  replace t8 := t8.keep bN
  replace b0 := below_trans b0 bN
  clear bN
  obtain ⟨w16, hB13⟩ : ∃ x : World, x = w15.alloc (.cells #[(.slice pa13 d13.pages.length pc13), (.slice wa13 d13.writes.length wc13), (.bool d13.down)] 25) := ⟨_, rfl⟩
  have bp : _ ∧ _ := ⟨heap_alloc_new w15 (.cells #[(.slice pa13 d13.pages.length pc13), (.slice wa13 d13.writes.length wc13), (.bool d13.down)] 25), below_new w15 (.cells #[(.slice pa13 d13.pages.length pc13), (.slice wa13 d13.writes.length wc13), (.bool d13.down)] 25)⟩
  rw [← hB13] at bp
  obtain ⟨g13, bN⟩ := bp
  replace g1 := block_keep g1 bN
  replace g7 := block_keep g7 bN
  replace g10 := block_keep g10 bN
  replace g11 := block_keep g11 bN
  replace h0 := h0.keep bN
  replace h1 := h1.keep bN
  replace h6 := h6.keep bN
  replace h7 := h7.keep bN
  replace h9 := h9.keep bN
  replace h10 := h10.keep bN
  replace h11 := h11.keep bN
  replace h13 := h13.keep bN
  replace t3 := t3.keep bN
  replace t5 := t5.keep bN
  replace t8 := t8.keep bN
  replace b0 := below_trans b0 bN
  clear bN
  go_upto_region 9 with fail
  rw [← hB13]
  clear hB13
  obtain ⟨y0, y1, y2, -, -, -⟩ := Box3.of g13
  go_wp2_with fail
  refine (Crash_any _ d13 0 1 _ h13).mono ?_
  intro e w17 hres
  obtain ⟨pa14, pc14, wa14, wc14, rfl, h14, bN⟩ := hres.to C15
  clear y0 y1 y2
  replace g1 := block_keep g1 bN
  replace g7 := block_keep g7 bN
  replace g10 := block_keep g10 bN
  replace g11 := block_keep g11 bN
  replace g13 := block_keep g13 bN
  replace h0 := h0.keep bN
  replace h1 := h1.keep bN
  replace h6 := h6.keep bN
  replace h7 := h7.keep bN
  replace h9 := h9.keep bN
  replace h10 := h10.keep bN
  replace h11 := h11.keep bN
  replace h13 := h13.keep bN
  replace t3 := t3.keep bN
  replace t5 := t5.keep bN
  replace t8 := t8.keep bN
  replace b0 := below_trans b0 bN
  clear bN
  go_wp2_with fail
  refine (Restart_any _ c15 _ h14).mono ?_
  intro e w18 hres
  obtain ⟨pa15, pc15, wa15, wc15, rfl, h15, bN⟩ := hres.to R15
  replace g1 := block_keep g1 bN
  replace g7 := block_keep g7 bN
  replace g10 := block_keep g10 bN
  replace g11 := block_keep g11 bN
  replace g13 := block_keep g13 bN
  replace h0 := h0.keep bN
  replace h1 := h1.keep bN
  replace h6 := h6.keep bN
  replace h7 := h7.keep bN
  replace h9 := h9.keep bN
  replace h10 := h10.keep bN
  replace h11 := h11.keep bN
  replace h13 := h13.keep bN
  replace h14 := h14.keep bN
  replace t3 := t3.keep bN
  replace t5 := t5.keep bN
  replace t8 := t8.keep bN
  replace b0 := below_trans b0 bN
  clear bN
  go_wp2_with fail
  refine (Read_any _ r15 1 _ h15).mono ?_
  intro e w19 hres
  obtain ⟨pa16, pc16, rfl, t16, bN⟩ := hres.to H15
  replace g1 := block_keep g1 bN
  replace g7 := block_keep g7 bN
  replace g10 := block_keep g10 bN
  replace g11 := block_keep g11 bN
  replace g13 := block_keep g13 bN
  replace h0 := h0.keep bN
  replace h1 := h1.keep bN
  replace h6 := h6.keep bN
  replace h7 := h7.keep bN
  replace h9 := h9.keep bN
  replace h10 := h10.keep bN
  replace h11 := h11.keep bN
  replace h13 := h13.keep bN
  replace h14 := h14.keep bN
  replace h15 := h15.keep bN
  replace t3 := t3.keep bN
  replace t5 := t5.keep bN
  replace t8 := t8.keep bN
  replace b0 := below_trans b0 bN
  clear bN
  obtain ⟨y0, y1, y2, -, -, -⟩ := Box3.of g1
  go_wp2_with fail
  refine (Crash_any _ d1 0 0 _ h1).mono ?_
  intro e w20 hres
  obtain ⟨pa17, pc17, wa17, wc17, rfl, h17, bN⟩ := hres.to C10
  clear y0 y1 y2
  replace g1 := block_keep g1 bN
  replace g7 := block_keep g7 bN
  replace g10 := block_keep g10 bN
  replace g11 := block_keep g11 bN
  replace g13 := block_keep g13 bN
  replace h0 := h0.keep bN
  replace h1 := h1.keep bN
  replace h6 := h6.keep bN
  replace h7 := h7.keep bN
  replace h9 := h9.keep bN
  replace h10 := h10.keep bN
  replace h11 := h11.keep bN
  replace h13 := h13.keep bN
  replace h14 := h14.keep bN
  replace h15 := h15.keep bN
  replace t3 := t3.keep bN
  replace t5 := t5.keep bN
  replace t8 := t8.keep bN
  replace t16 := t16.keep bN
  replace b0 := below_trans b0 bN
  clear bN
  go_wp2_with fail
  refine (Write_any _ c10 0 _ [] _ h17 (IsBytes.nil _) (by omega)).mono ?_
  intro e w21 hres
  obtain ⟨pa18, pc18, wa18, wc18, rfl, h18, bN⟩ := hres.to H17
  replace g1 := block_keep g1 bN
  replace g7 := block_keep g7 bN
  replace g10 := block_keep g10 bN
  replace g11 := block_keep g11 bN
  replace g13 := block_keep g13 bN
  replace h0 := h0.keep bN
  replace h1 := h1.keep bN
  replace h6 := h6.keep bN
  replace h7 := h7.keep bN
  replace h9 := h9.keep bN
  replace h10 := h10.keep bN
  replace h11 := h11.keep bN
  replace h13 := h13.keep bN
  replace h14 := h14.keep bN
  replace h15 := h15.keep bN
  replace h17 := h17.keep bN
  replace t3 := t3.keep bN
  replace t5 := t5.keep bN
  replace t8 := t8.keep bN
  replace t16 := t16.keep bN
  replace b0 := below_trans b0 bN
  clear bN
  obtain ⟨w22, hB18⟩ : ∃ x : World, x = w21.alloc (.cells #[(.slice pa18 d17.pages.length pc18), (.slice wa18 d17.writes.length wc18), (.bool d17.down)] 25) := ⟨_, rfl⟩
  have bp : _ ∧ _ := ⟨heap_alloc_new w21 (.cells #[(.slice pa18 d17.pages.length pc18), (.slice wa18 d17.writes.length wc18), (.bool d17.down)] 25), below_new w21 (.cells #[(.slice pa18 d17.pages.length pc18), (.slice wa18 d17.writes.length wc18), (.bool d17.down)] 25)⟩
  rw [← hB18] at bp
  obtain ⟨g18, bN⟩ := bp
  replace g1 := block_keep g1 bN
  replace g7 := block_keep g7 bN
  replace g10 := block_keep g10 bN
  replace g11 := block_keep g11 bN
  replace g13 := block_keep g13 bN
  replace h0 := h0.keep bN
  replace h1 := h1.keep bN
  replace h6 := h6.keep bN
  replace h7 := h7.keep bN
  replace h9 := h9.keep bN
  replace h10 := h10.keep bN
  replace h11 := h11.keep bN
  replace h13 := h13.keep bN
  replace h14 := h14.keep bN
  replace h15 := h15.keep bN
  replace h17 := h17.keep bN
  replace h18 := h18.keep bN
  replace t3 := t3.keep bN
  replace t5 := t5.keep bN
  replace t8 := t8.keep bN
  replace t16 := t16.keep bN
  replace b0 := below_trans b0 bN
  clear bN
  go_upto_region 11 with fail
  rw [← hB18]
  clear hB18
  obtain ⟨y0, y1, y2, -, -, -⟩ := Box3.of g1
  go_wp2_with fail
  refine (Write_any _ d1 400 _ [] _ h1 (IsBytes.nil _) (by omega)).mono ?_
  intro e w23 hres
  obtain ⟨pa19, pc19, wa19, wc19, rfl, h19, bN⟩ := hres.to H19
  clear y0 y1 y2
  replace g1 := block_keep g1 bN
  replace g7 := block_keep g7 bN
  replace g10 := block_keep g10 bN
  replace g11 := block_keep g11 bN
  replace g13 := block_keep g13 bN
  replace g18 := block_keep g18 bN
  replace h0 := h0.keep bN
  replace h1 := h1.keep bN
  replace h6 := h6.keep bN
  replace h7 := h7.keep bN
  replace h9 := h9.keep bN
  replace h10 := h10.keep bN
  replace h11 := h11.keep bN
  replace h13 := h13.keep bN
  replace h14 := h14.keep bN
  replace h15 := h15.keep bN
  replace h17 := h17.keep bN
  replace h18 := h18.keep bN
  replace t3 := t3.keep bN
  replace t5 := t5.keep bN
  replace t8 := t8.keep bN
  replace t16 := t16.keep bN
  replace b0 := below_trans b0 bN
  clear bN
  obtain ⟨w24, hB19⟩ : ∃ x : World, x = w23.alloc (.cells #[(.slice pa19 d19.pages.length pc19), (.slice wa19 d19.writes.length wc19), (.bool d19.down)] 25) := ⟨_, rfl⟩
  have bp : _ ∧ _ := ⟨heap_alloc_new w23 (.cells #[(.slice pa19 d19.pages.length pc19), (.slice wa19 d19.writes.length wc19), (.bool d19.down)] 25), below_new w23 (.cells #[(.slice pa19 d19.pages.length pc19), (.slice wa19 d19.writes.length wc19), (.bool d19.down)] 25)⟩
  rw [← hB19] at bp
  obtain ⟨g19, bN⟩ := bp
  replace g1 := block_keep g1 bN
  replace g7 := block_keep g7 bN
  replace g10 := block_keep g10 bN
  replace g11 := block_keep g11 bN
  replace g13 := block_keep g13 bN
  replace g18 := block_keep g18 bN
  replace h0 := h0.keep bN
  replace h1 := h1.keep bN
  replace h6 := h6.keep bN
  replace h7 := h7.keep bN
  replace h9 := h9.keep bN
  replace h10 := h10.keep bN
  replace h11 := h11.keep bN
  replace h13 := h13.keep bN
  replace h14 := h14.keep bN
  replace h15 := h15.keep bN
  replace h17 := h17.keep bN
  replace h18 := h18.keep bN
  replace h19 := h19.keep bN
  replace t3 := t3.keep bN
  replace t5 := t5.keep bN
  replace t8 := t8.keep bN
  replace t16 := t16.keep bN
  replace b0 := below_trans b0 bN
  clear bN
  go_upto_region 12 with fail
  rw [← hB19]
  clear hB19
  have q10 : ((d10.pages.length : Int) == 0) = true := by rw [N10.out]; rfl
  have q7 : ((d7.pages.length : Int) == 2) = true := by rw [N7.out]; rfl
  clear N10 N7
  go_wp2_with fail
  have hl : IsBytes (w24.alloc (.cells #[.int .u8 5, .int .u8 6] 5)) (.slice (some ⟨w24.heap.size, 0, none⟩) 2 2) [5, 6] := lit_bytes w24 [5, 6] (by decide)
  refine (begins_to (b := [5, 6]) (t3.keep (below_new _ _)) hl (by decide) E3).mono ?_
  rintro e w25 ⟨rfl, bN⟩
  clear hl
  replace bN := below_trans (below_new w24 (.cells #[.int .u8 5, .int .u8 6] 5)) bN
  replace g1 := block_keep g1 bN
  replace g7 := block_keep g7 bN
  replace g10 := block_keep g10 bN
  replace g11 := block_keep g11 bN
  replace g13 := block_keep g13 bN
  replace g18 := block_keep g18 bN
  replace g19 := block_keep g19 bN
  replace h0 := h0.keep bN
  replace h1 := h1.keep bN
  replace h6 := h6.keep bN
  replace h7 := h7.keep bN
  replace h9 := h9.keep bN
  replace h10 := h10.keep bN
  replace h11 := h11.keep bN
  replace h13 := h13.keep bN
  replace h14 := h14.keep bN
  replace h15 := h15.keep bN
  replace h17 := h17.keep bN
  replace h18 := h18.keep bN
  replace h19 := h19.keep bN
  replace t3 := t3.keep bN
  replace t5 := t5.keep bN
  replace t8 := t8.keep bN
  replace t16 := t16.keep bN
  replace b0 := below_trans b0 bN
  clear bN
  go_wp2_with fail
  refine (begins_to (b := []) t5 (IsBytes.nil _) (by decide) E5).mono ?_
  rintro e w26 ⟨rfl, bN⟩
  replace g1 := block_keep g1 bN
  replace g7 := block_keep g7 bN
  replace g10 := block_keep g10 bN
  replace g11 := block_keep g11 bN
  replace g13 := block_keep g13 bN
  replace g18 := block_keep g18 bN
  replace g19 := block_keep g19 bN
  replace h0 := h0.keep bN
  replace h1 := h1.keep bN
  replace h6 := h6.keep bN
  replace h7 := h7.keep bN
  replace h9 := h9.keep bN
  replace h10 := h10.keep bN
  replace h11 := h11.keep bN
  replace h13 := h13.keep bN
  replace h14 := h14.keep bN
  replace h15 := h15.keep bN
  replace h17 := h17.keep bN
  replace h18 := h18.keep bN
  replace h19 := h19.keep bN
  replace t3 := t3.keep bN
  replace t5 := t5.keep bN
  replace t8 := t8.keep bN
  replace t16 := t16.keep bN
  replace b0 := below_trans b0 bN
  clear bN
  go_wp2_with fail
  have hl : IsBytes (w26.alloc (.cells #[.int .u8 5] 5)) (.slice (some ⟨w26.heap.size, 0, none⟩) 1 1) [5] := lit_bytes w26 [5] (by decide)
  refine (begins_to (b := [5]) (t8.keep (below_new _ _)) hl (by decide) E8).mono ?_
  rintro e w27 ⟨rfl, bN⟩
  clear hl
  replace bN := below_trans (below_new w26 (.cells #[.int .u8 5] 5)) bN
  replace g1 := block_keep g1 bN
  replace g7 := block_keep g7 bN
  replace g10 := block_keep g10 bN
  replace g11 := block_keep g11 bN
  replace g13 := block_keep g13 bN
  replace g18 := block_keep g18 bN
  replace g19 := block_keep g19 bN
  replace h0 := h0.keep bN
  replace h1 := h1.keep bN
  replace h6 := h6.keep bN
  replace h7 := h7.keep bN
  replace h9 := h9.keep bN
  replace h10 := h10.keep bN
  replace h11 := h11.keep bN
  replace h13 := h13.keep bN
  replace h14 := h14.keep bN
  replace h15 := h15.keep bN
  replace h17 := h17.keep bN
  replace h18 := h18.keep bN
  replace h19 := h19.keep bN
  replace t3 := t3.keep bN
  replace t5 := t5.keep bN
  replace t8 := t8.keep bN
  replace t16 := t16.keep bN
  replace b0 := below_trans b0 bN
  clear bN
  obtain ⟨y100, y101, y102, -, -, -⟩ := Box3.of g10
  obtain ⟨y70, y71, y72, -, -, -⟩ := Box3.of g7
  go_wp2_with fail
  have hl : IsBytes (w27.alloc (.cells #[.int .u8 7, .int .u8 6] 5)) (.slice (some ⟨w27.heap.size, 0, none⟩) 2 2) [7, 6] := lit_bytes w27 [7, 6] (by decide)
  refine (begins_to (b := [7, 6]) (t16.keep (below_new _ _)) hl (by decide) E15).mono ?_
  rintro e w28 ⟨rfl, bN⟩
  clear hl
  replace bN := below_trans (below_new w27 (.cells #[.int .u8 7, .int .u8 6] 5)) bN
  replace g1 := block_keep g1 bN
  replace g7 := block_keep g7 bN
  replace g10 := block_keep g10 bN
  replace g11 := block_keep g11 bN
  replace g13 := block_keep g13 bN
  replace g18 := block_keep g18 bN
  replace g19 := block_keep g19 bN
  replace h0 := h0.keep bN
  replace h1 := h1.keep bN
  replace h6 := h6.keep bN
  replace h7 := h7.keep bN
  replace h9 := h9.keep bN
  replace h10 := h10.keep bN
  replace h11 := h11.keep bN
  replace h13 := h13.keep bN
  replace h14 := h14.keep bN
  replace h15 := h15.keep bN
  replace h17 := h17.keep bN
  replace h18 := h18.keep bN
  replace h19 := h19.keep bN
  replace t3 := t3.keep bN
  replace t5 := t5.keep bN
  replace t8 := t8.keep bN
  replace t16 := t16.keep bN
  replace b0 := below_trans b0 bN
  clear bN
  go_wp2
  go_ret
  exact ⟨rfl, b0⟩
end Go.Proofs.Ytcembocnkndlhaa
