/- The law DiskSyncs. -/
import Derived.Test.YtcembocnkndlhaaUe
namespace Go.Proofs.Ytcembocnkndlhaa
open Go.RowKit
theorem law5_facts {d : Dk} {k : Int} (keep torn : Int) (hf : formed d = true) (hd : d.down = false) (h0 : 0 ≤ k) (h1 : k < 400) : ∃ (s c : Dk) (l : List UInt8), Hid (syncD d = (s, 0)) ∧ Hid (s.writes.length = 0) ∧ Hid (readD s k = (l, 0)) ∧ Hid (readD d k = (l, 0)) ∧ Hid (crashD s keep torn = c) ∧ Hid (c = ⟨s.pages, s.writes, true⟩) ∧ Hid (restartD c = s) := by
  have hfs := formed_sync hf
  refine ⟨⟨replay d.pages d.writes, [], false⟩, _, look d k, Lib.hid (syncD_ok hf hd), Lib.hid rfl, Lib.hid ?_, Lib.hid (readD_ok hf hd h0 h1), Lib.hid rfl, Lib.hid (crashD_dry hfs keep torn), Lib.hid ?_⟩
  · rw [readD_ok hfs rfl h0 h1, look_sync hf h0]
  · rw [crashD_dry hfs keep torn, restartD_ok (d := ⟨replay d.pages d.writes, [], true⟩) (formed_pages ((formed_iff _).1 hfs).2.1 ((formed_iff _).1 hfs).1)]
theorem IsDisk.flip {w : World} {p q : Value} {x : Bool} {d : Dk} (h : IsDisk w (.agg #[p, q, .bool x]) d) (y : Bool) : IsDisk w (.agg #[p, q, .bool y]) ⟨d.pages, d.writes, y⟩ := by
  obtain ⟨pv, wv, e, h1, h2⟩ := h
  have e' : p = pv ∧ q = wv := by simp at e; exact ⟨e.1, e.2.1⟩
  exact ⟨pv, wv, by rw [e'.1, e'.2], h1, h2⟩
set_option maxHeartbeats 16000000 in
set_option maxRecDepth 100000 in
theorem law5_any (v : Value) (d : Dk) (a keep torn : Int) (w : World) (h0 : IsDisk w v d) (ha : 0 ≤ a ∧ a < 65536) : Calls Try.prog 5 #[v, .int .u16 a, .int .i64 keep, .int .i64 torn] w fun e w' => e = .returned (.bool true) ∧ Below w.heap.size w w' := by
  obtain ⟨pa0, pc0, wa0, wc0, rfl, -, -, m1, m2, m3⟩ := h0.shape
  obtain ⟨w1, hB0⟩ : ∃ x : World, x = w.alloc (.cells #[.slice pa0 d.pages.length pc0, .slice wa0 d.writes.length wc0, .bool d.down] 25) := ⟨_, rfl⟩
  have bp : _ ∧ _ := ⟨heap_alloc_new w (.cells #[.slice pa0 d.pages.length pc0, .slice wa0 d.writes.length wc0, .bool d.down] 25), below_new w (.cells #[.slice pa0 d.pages.length pc0, .slice wa0 d.writes.length wc0, .bool d.down] 25)⟩
  rw [← hB0] at bp
  obtain ⟨g0, bN⟩ := bp
  replace h0 := h0.keep bN
  have b0 := bN
  clear bN
  go_enter Try.func5, Try.ntmps5
  go_wp2_with fail
  rw [← hB0]
  clear hB0
  refine (head_any _).mono ?_
  intro e w2 hres
  obtain ⟨rfl, bN⟩ := hres
  replace g0 := block_keep g0 bN
  replace h0 := h0.keep bN
  replace b0 := below_trans b0 bN
  clear bN
  obtain ⟨y00, y01, y02, f00, f01, f02⟩ := Box3.of g0
  go_wp2_with fail
  refine (fine_any _ d _ h0).mono ?_
  rintro e w9 ⟨rfl, bN⟩
  clear y00 y01 y02 f00 f01 f02
  replace g0 := block_keep g0 bN
  replace h0 := h0.keep bN
  replace b0 := below_trans b0 bN
  clear bN
  cases hfi : fineD d
  · go_wp2
    go_ret
    exact ⟨rfl, b0⟩
  obtain ⟨hfm, hdn, -, -⟩ := fine_parts hfi
  obtain ⟨kk, hkk⟩ : ∃ kk : Int, kk = a % 400 := ⟨_, rfl⟩
  have hk0 : 0 ≤ kk := by omega
  have hk1 : kk < 400 := by omega
  obtain ⟨s, c, l, HS5, HN5, HR5, HR0, HC5, HE5, HT5⟩ := law5_facts keep torn hfm hdn hk0 hk1
  have HKK := Lib.hid hkk
  clear hfm hdn hkk hfi
  obtain ⟨y00, y01, y02, f00, f01, f02⟩ := Box3.of g0
  go_wp2_with fail
  refine (Sync_any _ d _ h0).mono ?_
  intro e w10 hres
  obtain ⟨pa1, pc1, wa1, wc1, rfl, h1, bN⟩ := hres.to HS5
  clear y00 y01 y02 f00 f01 f02
  replace g0 := block_keep g0 bN
  replace h0 := h0.keep bN
  replace b0 := below_trans b0 bN
  clear bN
  obtain ⟨w11, hB1⟩ : ∃ x : World, x = w10.alloc (.cells #[(.slice pa1 s.pages.length pc1), (.slice wa1 s.writes.length wc1), (.bool s.down)] 25) := ⟨_, rfl⟩
  have bp : _ ∧ _ := ⟨heap_alloc_new w10 (.cells #[(.slice pa1 s.pages.length pc1), (.slice wa1 s.writes.length wc1), (.bool s.down)] 25), below_new w10 (.cells #[(.slice pa1 s.pages.length pc1), (.slice wa1 s.writes.length wc1), (.bool s.down)] 25)⟩
  rw [← hB1] at bp
  obtain ⟨g1, bN⟩ := bp
  replace g0 := block_keep g0 bN
  replace h0 := h0.keep bN
  replace h1 := h1.keep bN
  replace b0 := below_trans b0 bN
  clear bN
  go_upto_region 5 with fail
  rw [← hB1]
  clear hB1
  go_upto_region 6 with fail
  rw [← HKK.out]
  have hq : decide (0 < (s.writes.length : Int)) = false := decide_eq_false (by rw [HN5.out]; decide)
  have hq2 : decide (0 < s.writes.length) = false := decide_eq_false (by rw [HN5.out]; decide)
  go_cut [45] from 28 to 44 (fun vt wx => vt = .bool false ∧ Below w11.heap.size w11 wx)
  case first =>
    have HS : ∀ w', Below w11.heap.size w11 w' → w'.cell? ⟨w10.heap.size, 0, none⟩ = some (.slice pa1 s.pages.length pc1) ∧ w'.cell? ⟨w10.heap.size, 1, none⟩ = some (.slice wa1 s.writes.length wc1) ∧ w'.cell? ⟨w10.heap.size, 2, none⟩ = some (.bool s.down) ∧ w'.cell? ⟨w.heap.size, 0, none⟩ = some (.slice pa0 d.pages.length pc0) ∧ w'.cell? ⟨w.heap.size, 1, none⟩ = some (.slice wa0 d.writes.length wc0) ∧ w'.cell? ⟨w.heap.size, 2, none⟩ = some (.bool d.down) := fun w' hb => ⟨(Box3.of (block_keep g1 hb)).c0, (Box3.of (block_keep g1 hb)).c1, (Box3.of (block_keep g1 hb)).c2, (Box3.of (block_keep g0 hb)).c0, (Box3.of (block_keep g0 hb)).c1, (Box3.of (block_keep g0 hb)).c2⟩
    go_region_held3 (fun w' => w'.cell? ⟨w10.heap.size, 0, none⟩ = some (.slice pa1 s.pages.length pc1) ∧ w'.cell? ⟨w10.heap.size, 1, none⟩ = some (.slice wa1 s.writes.length wc1) ∧ w'.cell? ⟨w10.heap.size, 2, none⟩ = some (.bool s.down) ∧ w'.cell? ⟨w.heap.size, 0, none⟩ = some (.slice pa0 d.pages.length pc0) ∧ w'.cell? ⟨w.heap.size, 1, none⟩ = some (.slice wa0 d.writes.length wc0) ∧ w'.cell? ⟨w.heap.size, 2, none⟩ = some (.bool d.down))
      (first | exact HS _ (by with_reducible (repeat (first | assumption | exact Below.refl _ _ | refine below_alloc' ?_ | refine below_drew' ?_ | refine below_step (by assumption) ?_))))
      (first
        | (go_at_call 34; refine page_ts (d := s) (IsDisk.keep h1 (by with_reducible (repeat (first | assumption | exact Below.refl _ _ | refine below_alloc' ?_ | refine below_drew' ?_ | refine below_step (by assumption) ?_)))) HR5 ?_; intro pa5 pc5 w5 t5 b5)
        | (go_at_call 34; refine page_ts (d := d) (IsDisk.keep h0 (by with_reducible (repeat (first | assumption | exact Below.refl _ _ | refine below_alloc' ?_ | refine below_drew' ?_ | refine below_step (by assumption) ?_)))) HR0 ?_; intro pa6 pc6 w6 t6 b6)
        | (go_at_call 26; refine sameb_ts (IsBytes.keep t5 (by with_reducible (repeat (first | assumption | exact Below.refl _ _ | refine below_alloc' ?_ | refine below_drew' ?_ | refine below_step (by assumption) ?_)))) (IsBytes.keep t6 (by with_reducible (repeat (first | assumption | exact Below.refl _ _ | refine below_alloc' ?_ | refine below_drew' ?_ | refine below_step (by assumption) ?_)))) (Lib.hid rfl) ?_; intro w7 b7))
    all_goals
      go_wp2
      go_meet
      case rel => exact ⟨rfl, by with_reducible (repeat (first | assumption | exact Below.refl _ _ | refine below_alloc' ?_ | refine below_drew' ?_ | refine below_step (by assumption) ?_))⟩
  case rest =>
    obtain ⟨rfl, bN⟩ := hcut
    clear hq hq2
    replace g0 := block_keep g0 bN
    replace g1 := block_keep g1 bN
    replace h0 := h0.keep bN
    replace h1 := h1.keep bN
    replace b0 := below_trans b0 bN
    clear bN
    obtain ⟨y00, y01, y02, f00, f01, f02⟩ := Box3.of g1
    go_wp2_with fail
    refine (Crash_any _ s keep torn _ h1).mono ?_
    intro e w12 hres
    obtain ⟨pa2, pc2, wa2, wc2, rfl, h2, bN⟩ := hres.to HC5
    clear y00 y01 y02 f00 f01 f02
    replace g0 := block_keep g0 bN
    replace g1 := block_keep g1 bN
    replace h0 := h0.keep bN
    replace h1 := h1.keep bN
    replace b0 := below_trans b0 bN
    clear bN
    obtain ⟨w13, hB2⟩ : ∃ x : World, x = w12.alloc (.cells #[(.slice pa2 c.pages.length pc2), (.slice wa2 c.writes.length wc2), (.bool c.down)] 25) := ⟨_, rfl⟩
    have bp : _ ∧ _ := ⟨heap_alloc_new w12 (.cells #[(.slice pa2 c.pages.length pc2), (.slice wa2 c.writes.length wc2), (.bool c.down)] 25), below_new w12 (.cells #[(.slice pa2 c.pages.length pc2), (.slice wa2 c.writes.length wc2), (.bool c.down)] 25)⟩
    rw [← hB2] at bp
    obtain ⟨g2, bN⟩ := bp
    replace g0 := block_keep g0 bN
    replace g1 := block_keep g1 bN
    replace h0 := h0.keep bN
    replace h1 := h1.keep bN
    replace h2 := h2.keep bN
    replace b0 := below_trans b0 bN
    clear bN
    go_upto_region 9 with fail
    rw [← hB2]
    clear hB2
    obtain ⟨y00, y01, y02, f00, f01, f02⟩ := Box3.of g1
    obtain ⟨w14, hB3⟩ : ∃ x : World, x = w13.alloc (.cells #[(.slice pa1 s.pages.length pc1), (.slice wa1 s.writes.length wc1), (.bool true)] 25) := ⟨_, rfl⟩
    have bp : _ ∧ _ := ⟨heap_alloc_new w13 (.cells #[(.slice pa1 s.pages.length pc1), (.slice wa1 s.writes.length wc1), (.bool true)] 25), below_new w13 (.cells #[(.slice pa1 s.pages.length pc1), (.slice wa1 s.writes.length wc1), (.bool true)] 25)⟩
    rw [← hB3] at bp
    obtain ⟨g3, bN⟩ := bp
    replace g0 := block_keep g0 bN
    replace g1 := block_keep g1 bN
    replace g2 := block_keep g2 bN
    replace h0 := h0.keep bN
    replace h1 := h1.keep bN
    replace h2 := h2.keep bN
    replace b0 := below_trans b0 bN
    clear bN
    go_upto_region 11 with fail
    rw [← hB3]
    clear hB3
    clear y00 y01 y02 f00 f01 f02
    have h3 := h1.flip true
    have HS : ∀ w', Below w14.heap.size w14 w' → w'.cell? ⟨w12.heap.size, 0, none⟩ = some (.slice pa2 c.pages.length pc2) ∧ w'.cell? ⟨w12.heap.size, 1, none⟩ = some (.slice wa2 c.writes.length wc2) ∧ w'.cell? ⟨w12.heap.size, 2, none⟩ = some (.bool c.down) ∧ w'.cell? ⟨w13.heap.size, 0, none⟩ = some (.slice pa1 s.pages.length pc1) ∧ w'.cell? ⟨w13.heap.size, 1, none⟩ = some (.slice wa1 s.writes.length wc1) ∧ w'.cell? ⟨w13.heap.size, 2, none⟩ = some (.bool true) ∧ w'.cell? ⟨w10.heap.size, 0, none⟩ = some (.slice pa1 s.pages.length pc1) ∧ w'.cell? ⟨w10.heap.size, 1, none⟩ = some (.slice wa1 s.writes.length wc1) ∧ w'.cell? ⟨w10.heap.size, 2, none⟩ = some (.bool s.down) := fun w' hb => ⟨(Box3.of (block_keep g2 hb)).c0, (Box3.of (block_keep g2 hb)).c1, (Box3.of (block_keep g2 hb)).c2, (Box3.of (block_keep g3 hb)).c0, (Box3.of (block_keep g3 hb)).c1, (Box3.of (block_keep g3 hb)).c2, (Box3.of (block_keep g1 hb)).c0, (Box3.of (block_keep g1 hb)).c1, (Box3.of (block_keep g1 hb)).c2⟩
    go_region_held3 (fun w' => w'.cell? ⟨w12.heap.size, 0, none⟩ = some (.slice pa2 c.pages.length pc2) ∧ w'.cell? ⟨w12.heap.size, 1, none⟩ = some (.slice wa2 c.writes.length wc2) ∧ w'.cell? ⟨w12.heap.size, 2, none⟩ = some (.bool c.down) ∧ w'.cell? ⟨w13.heap.size, 0, none⟩ = some (.slice pa1 s.pages.length pc1) ∧ w'.cell? ⟨w13.heap.size, 1, none⟩ = some (.slice wa1 s.writes.length wc1) ∧ w'.cell? ⟨w13.heap.size, 2, none⟩ = some (.bool true) ∧ w'.cell? ⟨w10.heap.size, 0, none⟩ = some (.slice pa1 s.pages.length pc1) ∧ w'.cell? ⟨w10.heap.size, 1, none⟩ = some (.slice wa1 s.writes.length wc1) ∧ w'.cell? ⟨w10.heap.size, 2, none⟩ = some (.bool s.down))
      (first | exact HS _ (by with_reducible (repeat (first | assumption | exact Below.refl _ _ | refine below_alloc' ?_ | refine below_drew' ?_ | refine below_step (by assumption) ?_))))
      (first
        | (go_at_call 29; refine restart_ts (IsDisk.keep h2 (by with_reducible (repeat (first | assumption | exact Below.refl _ _ | refine below_alloc' ?_ | refine below_drew' ?_ | refine below_step (by assumption) ?_)))) HT5 ?_; intro pa5 pc5 wa5 wc5 w5 h5 b5)
        | (go_at_call 21; refine same_ts (a := c) (b := ⟨s.pages, s.writes, true⟩) (IsDisk.keep h2 (by with_reducible (repeat (first | assumption | exact Below.refl _ _ | refine below_alloc' ?_ | refine below_drew' ?_ | refine below_step (by assumption) ?_)))) (IsDisk.keep h3 (by with_reducible (repeat (first | assumption | exact Below.refl _ _ | refine below_alloc' ?_ | refine below_drew' ?_ | refine below_step (by assumption) ?_)))) HE5 ?_; intro w6 b6)
        | (go_at_call 21; refine same_ts (a := s) (b := s) (IsDisk.keep h5 (by with_reducible (repeat (first | assumption | exact Below.refl _ _ | refine below_alloc' ?_ | refine below_drew' ?_ | refine below_step (by assumption) ?_)))) (IsDisk.keep h1 (by with_reducible (repeat (first | assumption | exact Below.refl _ _ | refine below_alloc' ?_ | refine below_drew' ?_ | refine below_step (by assumption) ?_)))) (Lib.hid rfl) ?_; intro w7 b7))
    all_goals
      go_wp2
      go_ret
      exact ⟨rfl, below_trans b0 (by with_reducible (repeat (first | assumption | exact Below.refl _ _ | refine below_alloc' ?_ | refine below_drew' ?_ | refine below_step (by assumption) ?_)))⟩
end Go.Proofs.Ytcembocnkndlhaa
