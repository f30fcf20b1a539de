/- The law LogSyncs. -/
import Derived.Test.YtcembocnkndlhaaM13
namespace Go.Proofs.Ytcembocnkndlhaa
open Go.RowKit
theorem failure_same {d x : Dk} (hf : formed d = true) (hx : formed x = true) (hd : d.down = false) (hxd : x.down = false) (k : Int) : failure x k = failure d k := by
  unfold failure
  rw [hf, hx, hd, hxd]
theorem records_same {d x : Dk} {k : Int} (hf : failure x k = failure d k) (hp : pagesOf x = pagesOf d) : recordsD x k = recordsD d k ∧ endD x k = endD d k := by
  unfold recordsD endD
  rw [hf, hp]
  exact ⟨rfl, rfl⟩
theorem sync_facts {d : Dk} (k keep torn : Int) (h : failure d 0 = 0) : ∃ x c : Dk, Hid (syncD d = (x, 0)) ∧ Hid (crashD x keep torn = c) ∧ Hid (restartD c = x) ∧ Hid (recordsD x k = recordsD d k) ∧ Hid (endD x k = endD d k) := by
  obtain ⟨hf, hd, -, -⟩ := failure_zero h
  have hx := formed_sync hf
  have hp : pagesOf ⟨replay d.pages d.writes, [], false⟩ = pagesOf d := by
    funext i
    exact look_sync hf (by omega)
  obtain ⟨e1, e2⟩ := records_same (k := k) (failure_same hf hx hd rfl k) hp
  refine ⟨⟨replay d.pages d.writes, [], false⟩, ⟨replay d.pages d.writes, [], true⟩, Lib.hid (syncD_ok hf hd), Lib.hid (crashD_dry hx keep torn), Lib.hid ?_, Lib.hid e1, Lib.hid e2⟩
  have := wide_of_formed hf d.writes.length
  rw [List.take_length] at this
  exact restartD_ok (formed_pages this.1 this.2)
set_option maxHeartbeats 16000000 in
set_option maxRecDepth 100000 in
theorem law16_any (v : Value) (d : Dk) (k keep torn : Int) (w : World) (h0 : IsDisk w v d) (ha : 0 ≤ keep ∧ keep < 256) (hb : 0 ≤ torn ∧ torn < 256) : Calls Try.prog 16 #[v, .int .i64 k, .int .u8 keep, .int .u8 torn] w fun e w' => e = .returned (.bool true) ∧ Below w.heap.size w w' := by
  obtain ⟨pa0, pc0, wa0, wc0, rfl, -, -, m1, m2, m3⟩ := h0.shape
  obtain ⟨w1, hB0⟩ : ∃ x : World, x = w.alloc (.cells #[.slice pa0 d.pages.length pc0, .slice wa0 d.writes.length wc0, .bool d.down] 25) := ⟨_, rfl⟩
  have bp : _ ∧ _ := ⟨heap_alloc_new w (.cells #[.slice pa0 d.pages.length pc0, .slice wa0 d.writes.length wc0, .bool d.down] 25), below_new w (.cells #[.slice pa0 d.pages.length pc0, .slice wa0 d.writes.length wc0, .bool d.down] 25)⟩
  rw [← hB0] at bp
  obtain ⟨g0, bN⟩ := bp
  replace h0 := h0.keep bN
  have b0 := bN
  clear bN
  go_enter Try.func16, Try.ntmps16
  go_wp2_with fail
  rw [← hB0]
  clear hB0
  refine (head36_any _).mono ?_
  intro e w2 hres
  obtain ⟨rfl, bN⟩ := hres
  replace g0 := block_keep g0 bN
  replace h0 := h0.keep bN
  replace b0 := below_trans b0 bN
  clear bN
  obtain ⟨x8, hx8⟩ : ∃ x, (syncD d).1 = x := ⟨_, rfl⟩
  obtain ⟨e8, he8⟩ : ∃ x, (syncD d).2 = x := ⟨_, rfl⟩
  have HS := Lib.hid (show syncD d = (x8, e8) from Prod.ext hx8 he8)
  clear hx8 he8
  go_upto_region 2 with fail
  obtain ⟨y00, y01, y02, f00, f01, f02⟩ := Box3.of g0
  go_wp2_with fail
  refine (Sync_any _ d _ h0).mono ?_
  intro e w3 hres
  obtain ⟨pa1, pc1, wa1, wc1, rfl, h1, bN⟩ := hres.to HS
  clear y00 y01 y02 f00 f01 f02
  replace g0 := block_keep g0 bN
  replace h0 := h0.keep bN
  replace b0 := below_trans b0 bN
  clear bN
  obtain ⟨w4, hB1⟩ : ∃ x : World, x = w3.alloc (.cells #[(.slice pa1 x8.pages.length pc1), (.slice wa1 x8.writes.length wc1), (.bool x8.down)] 25) := ⟨_, rfl⟩
  have bp : _ ∧ _ := ⟨heap_alloc_new w3 (.cells #[(.slice pa1 x8.pages.length pc1), (.slice wa1 x8.writes.length wc1), (.bool x8.down)] 25), below_new w3 (.cells #[(.slice pa1 x8.pages.length pc1), (.slice wa1 x8.writes.length wc1), (.bool x8.down)] 25)⟩
  rw [← hB1] at bp
  obtain ⟨g1, bN⟩ := bp
  replace g0 := block_keep g0 bN
  replace h0 := h0.keep bN
  replace h1 := h1.keep bN
  replace b0 := below_trans b0 bN
  clear bN
  go_upto_region 3 with fail
  rw [← hB1]
  clear hB1
  obtain ⟨y00, y01, y02, f00, f01, f02⟩ := Box3.of g0
  go_wp2_with fail
  refine (fits_any _ _ d [] _ h0 (IsBytes.nil _)).mono ?_
  rintro e w29 ⟨rfl, bN⟩
  clear y00 y01 y02 f00 f01 f02
  replace g0 := block_keep g0 bN
  replace g1 := block_keep g1 bN
  replace h0 := h0.keep bN
  replace h1 := h1.keep bN
  replace b0 := below_trans b0 bN
  clear bN
  cases hfi : fitsD d []
  · go_wp2
    go_ret
    exact ⟨rfl, b0⟩
  by_cases hf : failure d 0 = 0
  case neg =>
    have hq : (e8 != 0) = true := by
      have := HS.out
      unfold syncD at this
      rw [if_pos hf] at this
      have e := congrArg Prod.snd this
      rw [bne_iff_ne]
      intro e'
      exact hf (e.trans e')
    go_wp2
    go_ret
    exact ⟨rfl, b0⟩
  obtain ⟨xx, c, HS2, HC, HT, HR, HE⟩ := sync_facts k keep torn hf
  have e1 := HS.out.symm.trans HS2.out
  simp only [Prod.mk.injEq] at e1
  obtain ⟨rfl, rfl⟩ := e1
  obtain ⟨L, hL⟩ : ∃ L, recordsD d k = L := ⟨_, rfl⟩
  have HL := Lib.hid hL
  rw [hL] at HR
  obtain ⟨E, hE⟩ : ∃ E, endD d k = E := ⟨_, rfl⟩
  have HEE := Lib.hid hE
  rw [hE] at HE
  clear hL hE hf hfi HS
  go_upto_region 5 with fail
  obtain ⟨y00, y01, y02, f00, f01, f02⟩ := Box3.of g1
  go_wp2_with fail
  refine (Crash_any _ x8 keep torn _ h1).mono ?_
  intro e w30 hres
  obtain ⟨pa2, pc2, wa2, wc2, rfl, h2, bN⟩ := hres.to HC
  clear y00 y01 y02 f00 f01 f02
  replace g0 := block_keep g0 bN
  replace g1 := block_keep g1 bN
  replace h0 := h0.keep bN
  replace h1 := h1.keep bN
  replace b0 := below_trans b0 bN
  clear bN
  go_wp2_with fail
  refine (Restart_any _ c _ h2).mono ?_
  intro e w31 hres
  obtain ⟨pa3, pc3, wa3, wc3, rfl, h3, bN⟩ := hres.to HT
  replace g0 := block_keep g0 bN
  replace g1 := block_keep g1 bN
  replace h0 := h0.keep bN
  replace h1 := h1.keep bN
  replace h2 := h2.keep bN
  replace b0 := below_trans b0 bN
  clear bN
  obtain ⟨w32, hB3⟩ : ∃ x : World, x = w31.alloc (.cells #[(.slice pa3 x8.pages.length pc3), (.slice wa3 x8.writes.length wc3), (.bool x8.down)] 25) := ⟨_, rfl⟩
  have bp : _ ∧ _ := ⟨heap_alloc_new w31 (.cells #[(.slice pa3 x8.pages.length pc3), (.slice wa3 x8.writes.length wc3), (.bool x8.down)] 25), below_new w31 (.cells #[(.slice pa3 x8.pages.length pc3), (.slice wa3 x8.writes.length wc3), (.bool x8.down)] 25)⟩
  rw [← hB3] at bp
  obtain ⟨g3, bN⟩ := bp
  replace g0 := block_keep g0 bN
  replace g1 := block_keep g1 bN
  replace h0 := h0.keep bN
  replace h1 := h1.keep bN
  replace h2 := h2.keep bN
  replace h3 := h3.keep bN
  replace b0 := below_trans b0 bN
  clear bN
  go_upto_region 6 with fail
  rw [← hB3]
  clear hB3
  have HS : ∀ w', Below w32.heap.size w32 w' → w'.cell? ⟨w3.heap.size, 0, none⟩ = some (.slice pa1 x8.pages.length pc1) ∧ w'.cell? ⟨w3.heap.size, 1, none⟩ = some (.slice wa1 x8.writes.length wc1) ∧ w'.cell? ⟨w3.heap.size, 2, none⟩ = some (.bool x8.down) ∧ w'.cell? ⟨w.heap.size, 0, none⟩ = some (.slice pa0 d.pages.length pc0) ∧ w'.cell? ⟨w.heap.size, 1, none⟩ = some (.slice wa0 d.writes.length wc0) ∧ w'.cell? ⟨w.heap.size, 2, none⟩ = some (.bool d.down) ∧ w'.cell? ⟨w31.heap.size, 0, none⟩ = some (.slice pa3 x8.pages.length pc3) ∧ w'.cell? ⟨w31.heap.size, 1, none⟩ = some (.slice wa3 x8.writes.length wc3) ∧ w'.cell? ⟨w31.heap.size, 2, none⟩ = some (.bool x8.down) := fun w' hb => ⟨(Box3.of (block_keep g1 hb)).c0, (Box3.of (block_keep g1 hb)).c1, (Box3.of (block_keep g1 hb)).c2, (Box3.of (block_keep g0 hb)).c0, (Box3.of (block_keep g0 hb)).c1, (Box3.of (block_keep g0 hb)).c2, (Box3.of (block_keep g3 hb)).c0, (Box3.of (block_keep g3 hb)).c1, (Box3.of (block_keep g3 hb)).c2⟩
  go_region_held3 (fun w' => w'.cell? ⟨w3.heap.size, 0, none⟩ = some (.slice pa1 x8.pages.length pc1) ∧ w'.cell? ⟨w3.heap.size, 1, none⟩ = some (.slice wa1 x8.writes.length wc1) ∧ w'.cell? ⟨w3.heap.size, 2, none⟩ = some (.bool x8.down) ∧ w'.cell? ⟨w.heap.size, 0, none⟩ = some (.slice pa0 d.pages.length pc0) ∧ w'.cell? ⟨w.heap.size, 1, none⟩ = some (.slice wa0 d.writes.length wc0) ∧ w'.cell? ⟨w.heap.size, 2, none⟩ = some (.bool d.down) ∧ w'.cell? ⟨w31.heap.size, 0, none⟩ = some (.slice pa3 x8.pages.length pc3) ∧ w'.cell? ⟨w31.heap.size, 1, none⟩ = some (.slice wa3 x8.writes.length wc3) ∧ w'.cell? ⟨w31.heap.size, 2, none⟩ = some (.bool x8.down))
    (first | exact HS _ (by with_reducible (repeat (first | assumption | exact Below.refl _ _ | refine below_alloc' ?_ | refine below_drew' ?_ | refine below_step (by assumption) ?_))))
    (first
      | (go_at_call 41; refine records_tu (IsDisk.keep h1 (by with_reducible (repeat (first | assumption | exact Below.refl _ _ | refine below_alloc' ?_ | refine below_drew' ?_ | refine below_step (by assumption) ?_)))) HR ?_; intro u7 wq7 p7 bq7)
      | (go_at_call 41; refine records_tu (IsDisk.keep h0 (by with_reducible (repeat (first | assumption | exact Below.refl _ _ | refine below_alloc' ?_ | refine below_drew' ?_ | refine below_step (by assumption) ?_)))) HL ?_; intro u8 wq8 p8 bq8)
      | (go_at_call 41; refine records_tu (IsDisk.keep h3 (by with_reducible (repeat (first | assumption | exact Below.refl _ _ | refine below_alloc' ?_ | refine below_drew' ?_ | refine below_step (by assumption) ?_)))) HR ?_; intro u9 wq9 p9 bq9)
      | (go_at_call 45; refine rsame_ts (IsPages.keep p7 (by with_reducible (repeat (first | assumption | exact Below.refl _ _ | refine below_alloc' ?_ | refine below_drew' ?_ | refine below_step (by assumption) ?_)))) (IsPages.keep p8 (by with_reducible (repeat (first | assumption | exact Below.refl _ _ | refine below_alloc' ?_ | refine below_drew' ?_ | refine below_step (by assumption) ?_)))) (Lib.hid rfl) ?_; intro wq10 bq10)
      | (go_at_call 45; refine rsame_ts (IsPages.keep p9 (by with_reducible (repeat (first | assumption | exact Below.refl _ _ | refine below_alloc' ?_ | refine below_drew' ?_ | refine below_step (by assumption) ?_)))) (IsPages.keep p8 (by with_reducible (repeat (first | assumption | exact Below.refl _ _ | refine below_alloc' ?_ | refine below_drew' ?_ | refine below_step (by assumption) ?_)))) (Lib.hid rfl) ?_; intro wq13 bq13)
      | (go_at_call 42; refine end_ts (IsDisk.keep h1 (by with_reducible (repeat (first | assumption | exact Below.refl _ _ | refine below_alloc' ?_ | refine below_drew' ?_ | refine below_step (by assumption) ?_)))) HE ?_; intro wq11 bq11)
      | (go_at_call 42; refine end_ts (IsDisk.keep h0 (by with_reducible (repeat (first | assumption | exact Below.refl _ _ | refine below_alloc' ?_ | refine below_drew' ?_ | refine below_step (by assumption) ?_)))) HEE ?_; intro wq12 bq12))
  all_goals
    go_wp2
    go_ret
    exact ⟨rfl, below_trans b0 (by with_reducible (repeat (first | assumption | exact Below.refl _ _ | refine below_alloc' ?_ | refine below_drew' ?_ | refine below_step (by assumption) ?_)))⟩
end Go.Proofs.Ytcembocnkndlhaa
