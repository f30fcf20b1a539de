/- The law DiskStops. -/
import Derived.Test.YtcembocnkndlhaaL5
namespace Go.Proofs.Ytcembocnkndlhaa
open Go.RowKit
theorem IsDisk.pages_at {w : World} {pa : Option Addr} {pn pc : Nat} {q r : Value} {d : Dk} (h : IsDisk w (.agg #[.slice pa pn pc, q, r]) d) {i : Nat} {l : List UInt8} (hi : d.pages[i]? = some l) :
    ∃ b off qa qc, pa = some ⟨b, off, none⟩ ∧ w.cell? ⟨b, off + i, none⟩ = some (.slice qa l.length qc) ∧ IsBytes w (.slice qa l.length qc) l := by
  obtain ⟨pv, wv, e, h1, h2⟩ := h
  simp at e
  rw [← e.1] at h1
  exact h1.at_ hi
theorem failure_off {d : Dk} {k : Int} (hf : formed d = true) (hd : d.down = true) (h0 : 0 ≤ k) (h1 : k < 400) : failure d k = 350 := by
  unfold failure
  rw [hf, if_neg (by simp; omega), if_pos hd]
theorem law8_facts {d : Dk} (keep torn : Int) {n : Nat} {l : List UInt8} (hf : formed d = true) (h1 : n < 400) (hl : l.length ≤ 64) : ∃ (c r x y : Dk) (z : List UInt8), Hid (crashD d keep torn = c) ∧ c.writes.length ≤ 10 ∧ Hid (writeD c n l = (x, 350)) ∧ Hid (syncD c = (y, 350)) ∧ Hid (readD c n = ([], 350)) ∧ Hid (restartD c = r) ∧ Hid (crashD c torn keep = c) ∧ Hid (r = ⟨c.pages, c.writes, false⟩) ∧ Hid (readD r n = (z, 0))
    ∧ Hid (z = if h : n < r.pages.length then r.pages[n] else full []) := by
  have hc := crashD_ok hf keep torn
  have hw := (broken_wide hf keep torn).1
  have hfc := formed_crash hf keep torn true
  have hfr := formed_crash hf keep torn false
  have hfd : ∀ k : Int, 0 ≤ k → k < 400 → failure ⟨broken d keep torn, [], true⟩ k = 350 := fun k a b => failure_off hfc rfl a b
  refine ⟨⟨broken d keep torn, [], true⟩, ⟨broken d keep torn, [], false⟩, noDisk, noDisk, look ⟨broken d keep torn, [], false⟩ n, Lib.hid hc, by simp, Lib.hid ?_, Lib.hid ?_, Lib.hid ?_, Lib.hid ?_, Lib.hid (crashD_dry hfc torn keep), Lib.hid rfl, Lib.hid (readD_ok hfr rfl (by omega) (by omega)), Lib.hid ?_⟩
  · unfold writeD; rw [if_neg (by omega), hfd _ (by omega) (by omega), if_pos (by decide)]
  · unfold syncD; rw [hfd _ (by omega) (by omega), if_pos (by decide)]
  · unfold readD; rw [hfd _ (by omega) (by omega), if_pos (by decide)]
  · exact restartD_ok hfc
  · rw [look_nil _ _ _ (by omega) hw]
    by_cases h : n < (broken d keep torn).length
    · rw [dif_pos h]; exact pg_lt (by omega)
    · rw [dif_neg h]; exact pg_ge (by omega)
set_option maxHeartbeats 16000000 in
set_option maxRecDepth 100000 in
theorem law8_any (v : Value) (d : Dk) (keep torn a : Int) (bv : Value) (l : List UInt8) (w : World) (h0 : IsDisk w v d) (ha : 0 ≤ a ∧ a < 65536) (t0 : IsBytes w bv l) : Calls Try.prog 8 #[v, .int .i64 keep, .int .i64 torn, .int .u16 a, bv] w fun e w' => e = .returned (.bool true) ∧ Below w.heap.size w w' := by
  obtain ⟨bpa, bpc, rfl, -, mb⟩ := id t0
  obtain ⟨pa0, pc0, wa0, wc0, rfl, -, -, m1, m2, m3⟩ := h0.shape
  obtain ⟨w1, hB0⟩ : ∃ x : World, x = w.alloc (.cells #[.slice pa0 d.pages.length pc0, .slice wa0 d.writes.length wc0, .bool d.down] 25) := ⟨_, rfl⟩
  have bp : _ ∧ _ := ⟨heap_alloc_new w (.cells #[.slice pa0 d.pages.length pc0, .slice wa0 d.writes.length wc0, .bool d.down] 25), below_new w (.cells #[.slice pa0 d.pages.length pc0, .slice wa0 d.writes.length wc0, .bool d.down] 25)⟩
  rw [← hB0] at bp
  obtain ⟨g0, bN⟩ := bp
  replace h0 := h0.keep bN
  replace t0 := t0.keep bN
  have b0 := bN
  clear bN
  go_enter Try.func8, Try.ntmps8
  go_wp2_with fail
  rw [← hB0]
  clear hB0
  refine (head_any _).mono ?_
  intro e w2 hres
  obtain ⟨rfl, bN⟩ := hres
  replace g0 := block_keep g0 bN
  replace h0 := h0.keep bN
  replace t0 := t0.keep bN
  replace b0 := below_trans b0 bN
  clear bN
  obtain ⟨y00, y01, y02, f00, f01, f02⟩ := Box3.of g0
  go_wp2_with fail
  refine (fine_any _ d _ h0).mono ?_
  rintro e w9 ⟨rfl, bN⟩
  clear y00 y01 y02 f00 f01 f02
  replace g0 := block_keep g0 bN
  replace h0 := h0.keep bN
  replace t0 := t0.keep bN
  replace b0 := below_trans b0 bN
  clear bN
  cases hfi : fineD d
  · go_wp2
    go_ret
    exact ⟨rfl, b0⟩
  by_cases hl64 : l.length ≤ 64
  case neg =>
    have hq : decide (64 < (l.length : Int)) = true := decide_eq_true (by omega)
    go_wp2
    go_ret
    exact ⟨rfl, b0⟩
  have hq : decide (64 < (l.length : Int)) = false := decide_eq_false (by omega)
  obtain ⟨hfm, hdn, hwl, -⟩ := fine_parts hfi
  obtain ⟨n, hn⟩ : ∃ n : Nat, a % 400 = (n : Int) := ⟨(a % 400).toNat, by omega⟩
  have hk1 : n < 400 := by omega
  obtain ⟨c, r, x8, y8, z, HC, hcw, HW8, HS8, HR8, HT8, HD8, HE8, HZ8, HZ⟩ := law8_facts keep torn hfm hk1 hl64
  have HKK := Lib.hid hn
  clear hfm hdn hn hfi
  go_upto_region 5 with fail
  rw [HKK.out]
  clear hq
  obtain ⟨y00, y01, y02, f00, f01, f02⟩ := Box3.of g0
  go_wp2_with fail
  refine (Crash_any _ d keep torn _ h0).mono ?_
  intro e w10 hres
  obtain ⟨pa1, pc1, wa1, wc1, rfl, h1, bN⟩ := hres.to HC
  clear y00 y01 y02 f00 f01 f02
  replace g0 := block_keep g0 bN
  replace h0 := h0.keep bN
  replace t0 := t0.keep bN
  replace b0 := below_trans b0 bN
  clear bN
  obtain ⟨w11, hB1⟩ : ∃ x : World, x = w10.alloc (.cells #[(.slice pa1 c.pages.length pc1), (.slice wa1 c.writes.length wc1), (.bool c.down)] 25) := ⟨_, rfl⟩
  have bp : _ ∧ _ := ⟨heap_alloc_new w10 (.cells #[(.slice pa1 c.pages.length pc1), (.slice wa1 c.writes.length wc1), (.bool c.down)] 25), below_new w10 (.cells #[(.slice pa1 c.pages.length pc1), (.slice wa1 c.writes.length wc1), (.bool c.down)] 25)⟩
  rw [← hB1] at bp
  obtain ⟨g1, bN⟩ := bp
  replace g0 := block_keep g0 bN
  replace h0 := h0.keep bN
  replace h1 := h1.keep bN
  replace t0 := t0.keep bN
  replace b0 := below_trans b0 bN
  clear bN
  go_upto_region 6 with fail
  rw [← hB1]
  clear hB1
  obtain ⟨y00, y01, y02, f00, f01, f02⟩ := Box3.of g1
  go_wp2_with fail
  refine (Write_any _ c n _ l _ h1 t0 (by omega)).mono ?_
  intro e w12 hres
  obtain ⟨pa2, pc2, wa2, wc2, rfl, h2, bN⟩ := hres.to HW8
  clear y00 y01 y02 f00 f01 f02
  replace g0 := block_keep g0 bN
  replace g1 := block_keep g1 bN
  replace h0 := h0.keep bN
  replace h1 := h1.keep bN
  replace t0 := t0.keep bN
  replace b0 := below_trans b0 bN
  clear bN
  obtain ⟨w13, hB2⟩ : ∃ x : World, x = w12.alloc (.cells #[(.slice pa2 x8.pages.length pc2), (.slice wa2 x8.writes.length wc2), (.bool x8.down)] 25) := ⟨_, rfl⟩
  have bp : _ ∧ _ := ⟨heap_alloc_new w12 (.cells #[(.slice pa2 x8.pages.length pc2), (.slice wa2 x8.writes.length wc2), (.bool x8.down)] 25), below_new w12 (.cells #[(.slice pa2 x8.pages.length pc2), (.slice wa2 x8.writes.length wc2), (.bool x8.down)] 25)⟩
  rw [← hB2] at bp
  obtain ⟨g2, bN⟩ := bp
  replace g0 := block_keep g0 bN
  replace g1 := block_keep g1 bN
  replace h0 := h0.keep bN
  replace h1 := h1.keep bN
  replace h2 := h2.keep bN
  replace t0 := t0.keep bN
  replace b0 := below_trans b0 bN
  clear bN
  go_upto_region 7 with fail
  rw [← hB2]
  clear hB2
  obtain ⟨y00, y01, y02, f00, f01, f02⟩ := Box3.of g1
  go_wp2_with fail
  refine (Sync_any _ c _ h1).mono ?_
  intro e w14 hres
  obtain ⟨pa3, pc3, wa3, wc3, rfl, h3, bN⟩ := hres.to HS8
  clear y00 y01 y02 f00 f01 f02
  replace g0 := block_keep g0 bN
  replace g1 := block_keep g1 bN
  replace g2 := block_keep g2 bN
  replace h0 := h0.keep bN
  replace h1 := h1.keep bN
  replace h2 := h2.keep bN
  replace t0 := t0.keep bN
  replace b0 := below_trans b0 bN
  clear bN
  obtain ⟨w15, hB3⟩ : ∃ x : World, x = w14.alloc (.cells #[(.slice pa3 y8.pages.length pc3), (.slice wa3 y8.writes.length wc3), (.bool y8.down)] 25) := ⟨_, rfl⟩
  have bp : _ ∧ _ := ⟨heap_alloc_new w14 (.cells #[(.slice pa3 y8.pages.length pc3), (.slice wa3 y8.writes.length wc3), (.bool y8.down)] 25), below_new w14 (.cells #[(.slice pa3 y8.pages.length pc3), (.slice wa3 y8.writes.length wc3), (.bool y8.down)] 25)⟩
  rw [← hB3] at bp
  obtain ⟨g3, bN⟩ := bp
  replace g0 := block_keep g0 bN
  replace g1 := block_keep g1 bN
  replace g2 := block_keep g2 bN
  replace h0 := h0.keep bN
  replace h1 := h1.keep bN
  replace h2 := h2.keep bN
  replace h3 := h3.keep bN
  replace t0 := t0.keep bN
  replace b0 := below_trans b0 bN
  clear bN
  go_upto_region 8 with fail
  rw [← hB3]
  clear hB3
  obtain ⟨y00, y01, y02, f00, f01, f02⟩ := Box3.of g1
  go_wp2_with fail
  refine (Read_any _ c n _ h1).mono ?_
  intro e w16 hres
  obtain ⟨pa4, pc4, rfl, t4, bN⟩ := hres.to HR8
  clear y00 y01 y02 f00 f01 f02
  replace g0 := block_keep g0 bN
  replace g1 := block_keep g1 bN
  replace g2 := block_keep g2 bN
  replace g3 := block_keep g3 bN
  replace h0 := h0.keep bN
  replace h1 := h1.keep bN
  replace h2 := h2.keep bN
  replace h3 := h3.keep bN
  replace t0 := t0.keep bN
  replace b0 := below_trans b0 bN
  clear bN
  obtain ⟨y00, y01, y02, f00, f01, f02⟩ := Box3.of g1
  go_wp2_with fail
  refine (Restart_any _ c _ h1).mono ?_
  intro e w17 hres
  obtain ⟨pa5, pc5, wa5, wc5, rfl, h5, bN⟩ := hres.to HT8
  clear y00 y01 y02 f00 f01 f02
  replace g0 := block_keep g0 bN
  replace g1 := block_keep g1 bN
  replace g2 := block_keep g2 bN
  replace g3 := block_keep g3 bN
  replace h0 := h0.keep bN
  replace h1 := h1.keep bN
  replace h2 := h2.keep bN
  replace h3 := h3.keep bN
  replace t0 := t0.keep bN
  replace t4 := t4.keep bN
  replace b0 := below_trans b0 bN
  clear bN
  obtain ⟨w18, hB5⟩ : ∃ x : World, x = w17.alloc (.cells #[(.slice pa5 r.pages.length pc5), (.slice wa5 r.writes.length wc5), (.bool r.down)] 25) := ⟨_, rfl⟩
  have bp : _ ∧ _ := ⟨heap_alloc_new w17 (.cells #[(.slice pa5 r.pages.length pc5), (.slice wa5 r.writes.length wc5), (.bool r.down)] 25), below_new w17 (.cells #[(.slice pa5 r.pages.length pc5), (.slice wa5 r.writes.length wc5), (.bool r.down)] 25)⟩
  rw [← hB5] at bp
  obtain ⟨g5, bN⟩ := bp
  replace g0 := block_keep g0 bN
  replace g1 := block_keep g1 bN
  replace g2 := block_keep g2 bN
  replace g3 := block_keep g3 bN
  replace h0 := h0.keep bN
  replace h1 := h1.keep bN
  replace h2 := h2.keep bN
  replace h3 := h3.keep bN
  replace h5 := h5.keep bN
  replace t0 := t0.keep bN
  replace t4 := t4.keep bN
  replace b0 := below_trans b0 bN
  clear bN
  go_upto_region 10 with fail
  rw [← hB5]
  clear hB5
  go_wp2_with fail
  refine rfull_tb (IsBytes.nil _) (by decide) ?_
  intro pa6 pc6 w19 t6 bN
  replace g0 := block_keep g0 bN
  replace g1 := block_keep g1 bN
  replace g2 := block_keep g2 bN
  replace g3 := block_keep g3 bN
  replace g5 := block_keep g5 bN
  replace h0 := h0.keep bN
  replace h1 := h1.keep bN
  replace h2 := h2.keep bN
  replace h3 := h3.keep bN
  replace h5 := h5.keep bN
  replace t0 := t0.keep bN
  replace t4 := t4.keep bN
  replace b0 := below_trans b0 bN
  clear bN
  by_cases hlt : n < r.pages.length
  · have hz : r.pages[n] = z := by rw [HZ.out, dif_pos hlt]
    obtain ⟨b, off, qa, qc, e1, c0, t7⟩ := h5.pages_at (List.getElem?_eq_getElem hlt)
    subst e1
    rw [hz] at c0 t7
    have hq2 : decide ((n : Int) < (r.pages.length : Int)) = true := decide_eq_true (by omega)
    have hq3 : decide (n < r.pages.length) = true := decide_eq_true hlt
    have HZZ := Lib.hid hz
    clear hz
    obtain ⟨y00, y01, y02, f00, f01, f02⟩ := Box3.of g5
    go_upto_region 13 with fail
    clear y00 y01 y02 f00 f01 f02
    obtain ⟨y00, y01, y02, f00, f01, f02⟩ := Box3.of g1
    obtain ⟨w20, hB8⟩ : ∃ x : World, x = w19.alloc (.cells #[(.slice pa1 c.pages.length pc1), (.slice wa1 c.writes.length wc1), (.bool false)] 25) := ⟨_, rfl⟩
    have bp : _ ∧ _ := ⟨heap_alloc_new w19 (.cells #[(.slice pa1 c.pages.length pc1), (.slice wa1 c.writes.length wc1), (.bool false)] 25), below_new w19 (.cells #[(.slice pa1 c.pages.length pc1), (.slice wa1 c.writes.length wc1), (.bool false)] 25)⟩
    rw [← hB8] at bp
    obtain ⟨g8, bN⟩ := bp
    replace g0 := block_keep g0 bN
    replace g1 := block_keep g1 bN
    replace g2 := block_keep g2 bN
    replace g3 := block_keep g3 bN
    replace g5 := block_keep g5 bN
    replace h0 := h0.keep bN
    replace h1 := h1.keep bN
    replace h2 := h2.keep bN
    replace h3 := h3.keep bN
    replace h5 := h5.keep bN
    replace t0 := t0.keep bN
    replace t4 := t4.keep bN
    replace t6 := t6.keep bN
    replace t7 := t7.keep bN
    replace b0 := below_trans b0 bN
    clear bN
    go_upto_region 15 with fail
    rw [← hB8]
    clear hB8
    clear y00 y01 y02 f00 f01 f02
    have h8 := h1.flip false
    have HS : ∀ w', Below w20.heap.size w20 w' → w'.cell? ⟨w10.heap.size, 0, none⟩ = some (.slice pa1 c.pages.length pc1) ∧ w'.cell? ⟨w10.heap.size, 1, none⟩ = some (.slice wa1 c.writes.length wc1) ∧ w'.cell? ⟨w10.heap.size, 2, none⟩ = some (.bool c.down) ∧ w'.cell? ⟨w17.heap.size, 0, none⟩ = some (.slice (some ⟨b, off, none⟩) r.pages.length pc5) ∧ w'.cell? ⟨w17.heap.size, 1, none⟩ = some (.slice wa5 r.writes.length wc5) ∧ w'.cell? ⟨w17.heap.size, 2, none⟩ = some (.bool r.down) ∧ w'.cell? ⟨w19.heap.size, 0, none⟩ = some (.slice pa1 c.pages.length pc1) ∧ w'.cell? ⟨w19.heap.size, 1, none⟩ = some (.slice wa1 c.writes.length wc1) ∧ w'.cell? ⟨w19.heap.size, 2, none⟩ = some (.bool false) := fun w' hb => ⟨(Box3.of (block_keep g1 hb)).c0, (Box3.of (block_keep g1 hb)).c1, (Box3.of (block_keep g1 hb)).c2, (Box3.of (block_keep g5 hb)).c0, (Box3.of (block_keep g5 hb)).c1, (Box3.of (block_keep g5 hb)).c2, (Box3.of (block_keep g8 hb)).c0, (Box3.of (block_keep g8 hb)).c1, (Box3.of (block_keep g8 hb)).c2⟩
    go_region_held3 (fun w' => w'.cell? ⟨w10.heap.size, 0, none⟩ = some (.slice pa1 c.pages.length pc1) ∧ w'.cell? ⟨w10.heap.size, 1, none⟩ = some (.slice wa1 c.writes.length wc1) ∧ w'.cell? ⟨w10.heap.size, 2, none⟩ = some (.bool c.down) ∧ w'.cell? ⟨w17.heap.size, 0, none⟩ = some (.slice (some ⟨b, off, none⟩) r.pages.length pc5) ∧ w'.cell? ⟨w17.heap.size, 1, none⟩ = some (.slice wa5 r.writes.length wc5) ∧ w'.cell? ⟨w17.heap.size, 2, none⟩ = some (.bool r.down) ∧ w'.cell? ⟨w19.heap.size, 0, none⟩ = some (.slice pa1 c.pages.length pc1) ∧ w'.cell? ⟨w19.heap.size, 1, none⟩ = some (.slice wa1 c.writes.length wc1) ∧ w'.cell? ⟨w19.heap.size, 2, none⟩ = some (.bool false))
      (first | exact HS _ (by with_reducible (repeat (first | assumption | exact Below.refl _ _ | refine below_alloc' ?_ | refine below_drew' ?_ | refine below_step (by assumption) ?_))))
      (first
        | (go_at_call 27; refine crash_ts (d := c) (IsDisk.keep h1 (by with_reducible (repeat (first | assumption | exact Below.refl _ _ | refine below_alloc' ?_ | refine below_drew' ?_ | refine below_step (by assumption) ?_)))) HD8 ?_; intro pa9 pc9 wa9 wc9 w5 h9 b5)
        | (go_at_call 21; refine same_ts (a := c) (b := c) (IsDisk.keep h9 (by with_reducible (repeat (first | assumption | exact Below.refl _ _ | refine below_alloc' ?_ | refine below_drew' ?_ | refine below_step (by assumption) ?_)))) (IsDisk.keep h1 (by with_reducible (repeat (first | assumption | exact Below.refl _ _ | refine below_alloc' ?_ | refine below_drew' ?_ | refine below_step (by assumption) ?_)))) (Lib.hid rfl) ?_; intro w6 b6)
        | (go_at_call 21; refine same_ts (a := r) (b := ⟨c.pages, c.writes, false⟩) (IsDisk.keep h5 (by with_reducible (repeat (first | assumption | exact Below.refl _ _ | refine below_alloc' ?_ | refine below_drew' ?_ | refine below_step (by assumption) ?_)))) (IsDisk.keep h8 (by with_reducible (repeat (first | assumption | exact Below.refl _ _ | refine below_alloc' ?_ | refine below_drew' ?_ | refine below_step (by assumption) ?_)))) HE8 ?_; intro w7 b7)
        | (go_at_call 34; refine page_ts (d := r) (IsDisk.keep h5 (by with_reducible (repeat (first | assumption | exact Below.refl _ _ | refine below_alloc' ?_ | refine below_drew' ?_ | refine below_step (by assumption) ?_)))) HZ8 ?_; intro pa10 pc10 w8 t10 b8)
        | (go_at_call 26; refine sameb_ts (IsBytes.keep t10 (by with_reducible (repeat (first | assumption | exact Below.refl _ _ | refine below_alloc' ?_ | refine below_drew' ?_ | refine below_step (by assumption) ?_)))) (IsBytes.keep t7 (by with_reducible (repeat (first | assumption | exact Below.refl _ _ | refine below_alloc' ?_ | refine below_drew' ?_ | refine below_step (by assumption) ?_)))) (Lib.hid rfl) ?_; intro w9 b9))
    all_goals
      go_wp2
      go_ret
      exact ⟨rfl, below_trans b0 (by with_reducible (repeat (first | assumption | exact Below.refl _ _ | refine below_alloc' ?_ | refine below_drew' ?_ | refine below_step (by assumption) ?_)))⟩
  · have hz : full [] = z := by rw [HZ.out, dif_neg hlt]
    have hq2 : decide ((n : Int) < (r.pages.length : Int)) = false := decide_eq_false (by omega)
    have hq3 : decide (n < r.pages.length) = false := decide_eq_false hlt
    have HZZ := Lib.hid hz
    clear hz
    obtain ⟨y00, y01, y02, f00, f01, f02⟩ := Box3.of g5
    go_upto_region 13 with fail
    clear y00 y01 y02 f00 f01 f02
    obtain ⟨y00, y01, y02, f00, f01, f02⟩ := Box3.of g1
    obtain ⟨w20, hB8⟩ : ∃ x : World, x = w19.alloc (.cells #[(.slice pa1 c.pages.length pc1), (.slice wa1 c.writes.length wc1), (.bool false)] 25) := ⟨_, rfl⟩
    have bp : _ ∧ _ := ⟨heap_alloc_new w19 (.cells #[(.slice pa1 c.pages.length pc1), (.slice wa1 c.writes.length wc1), (.bool false)] 25), below_new w19 (.cells #[(.slice pa1 c.pages.length pc1), (.slice wa1 c.writes.length wc1), (.bool false)] 25)⟩
    rw [← hB8] at bp
    obtain ⟨g8, bN⟩ := bp
    replace g0 := block_keep g0 bN
    replace g1 := block_keep g1 bN
    replace g2 := block_keep g2 bN
    replace g3 := block_keep g3 bN
    replace g5 := block_keep g5 bN
    replace h0 := h0.keep bN
    replace h1 := h1.keep bN
    replace h2 := h2.keep bN
    replace h3 := h3.keep bN
    replace h5 := h5.keep bN
    replace t0 := t0.keep bN
    replace t4 := t4.keep bN
    replace t6 := t6.keep bN
    replace b0 := below_trans b0 bN
    clear bN
    go_upto_region 15 with fail
    rw [← hB8]
    clear hB8
    clear y00 y01 y02 f00 f01 f02
    have h8 := h1.flip false
    have HZZX := Lib.hid HZZ.out.symm
    have HS : ∀ w', Below w20.heap.size w20 w' → w'.cell? ⟨w10.heap.size, 0, none⟩ = some (.slice pa1 c.pages.length pc1) ∧ w'.cell? ⟨w10.heap.size, 1, none⟩ = some (.slice wa1 c.writes.length wc1) ∧ w'.cell? ⟨w10.heap.size, 2, none⟩ = some (.bool c.down) ∧ w'.cell? ⟨w17.heap.size, 0, none⟩ = some (.slice pa5 r.pages.length pc5) ∧ w'.cell? ⟨w17.heap.size, 1, none⟩ = some (.slice wa5 r.writes.length wc5) ∧ w'.cell? ⟨w17.heap.size, 2, none⟩ = some (.bool r.down) ∧ w'.cell? ⟨w19.heap.size, 0, none⟩ = some (.slice pa1 c.pages.length pc1) ∧ w'.cell? ⟨w19.heap.size, 1, none⟩ = some (.slice wa1 c.writes.length wc1) ∧ w'.cell? ⟨w19.heap.size, 2, none⟩ = some (.bool false) := fun w' hb => ⟨(Box3.of (block_keep g1 hb)).c0, (Box3.of (block_keep g1 hb)).c1, (Box3.of (block_keep g1 hb)).c2, (Box3.of (block_keep g5 hb)).c0, (Box3.of (block_keep g5 hb)).c1, (Box3.of (block_keep g5 hb)).c2, (Box3.of (block_keep g8 hb)).c0, (Box3.of (block_keep g8 hb)).c1, (Box3.of (block_keep g8 hb)).c2⟩
    go_region_held3 (fun w' => w'.cell? ⟨w10.heap.size, 0, none⟩ = some (.slice pa1 c.pages.length pc1) ∧ w'.cell? ⟨w10.heap.size, 1, none⟩ = some (.slice wa1 c.writes.length wc1) ∧ w'.cell? ⟨w10.heap.size, 2, none⟩ = some (.bool c.down) ∧ w'.cell? ⟨w17.heap.size, 0, none⟩ = some (.slice pa5 r.pages.length pc5) ∧ w'.cell? ⟨w17.heap.size, 1, none⟩ = some (.slice wa5 r.writes.length wc5) ∧ w'.cell? ⟨w17.heap.size, 2, none⟩ = some (.bool r.down) ∧ w'.cell? ⟨w19.heap.size, 0, none⟩ = some (.slice pa1 c.pages.length pc1) ∧ w'.cell? ⟨w19.heap.size, 1, none⟩ = some (.slice wa1 c.writes.length wc1) ∧ w'.cell? ⟨w19.heap.size, 2, none⟩ = some (.bool false))
      (first | exact HS _ (by with_reducible (repeat (first | assumption | exact Below.refl _ _ | refine below_alloc' ?_ | refine below_drew' ?_ | refine below_step (by assumption) ?_))))
      (first
        | (go_at_call 27; refine crash_ts (d := c) (IsDisk.keep h1 (by with_reducible (repeat (first | assumption | exact Below.refl _ _ | refine below_alloc' ?_ | refine below_drew' ?_ | refine below_step (by assumption) ?_)))) HD8 ?_; intro pa9 pc9 wa9 wc9 w5 h9 b5)
        | (go_at_call 21; refine same_ts (a := c) (b := c) (IsDisk.keep h9 (by with_reducible (repeat (first | assumption | exact Below.refl _ _ | refine below_alloc' ?_ | refine below_drew' ?_ | refine below_step (by assumption) ?_)))) (IsDisk.keep h1 (by with_reducible (repeat (first | assumption | exact Below.refl _ _ | refine below_alloc' ?_ | refine below_drew' ?_ | refine below_step (by assumption) ?_)))) (Lib.hid rfl) ?_; intro w6 b6)
        | (go_at_call 21; refine same_ts (a := r) (b := ⟨c.pages, c.writes, false⟩) (IsDisk.keep h5 (by with_reducible (repeat (first | assumption | exact Below.refl _ _ | refine below_alloc' ?_ | refine below_drew' ?_ | refine below_step (by assumption) ?_)))) (IsDisk.keep h8 (by with_reducible (repeat (first | assumption | exact Below.refl _ _ | refine below_alloc' ?_ | refine below_drew' ?_ | refine below_step (by assumption) ?_)))) HE8 ?_; intro w7 b7)
        | (go_at_call 34; refine page_ts (d := r) (IsDisk.keep h5 (by with_reducible (repeat (first | assumption | exact Below.refl _ _ | refine below_alloc' ?_ | refine below_drew' ?_ | refine below_step (by assumption) ?_)))) HZ8 ?_; intro pa10 pc10 w8 t10 b8)
        | (go_at_call 26; refine sameb_ts (IsBytes.keep t10 (by with_reducible (repeat (first | assumption | exact Below.refl _ _ | refine below_alloc' ?_ | refine below_drew' ?_ | refine below_step (by assumption) ?_)))) (IsBytes.keep t6 (by with_reducible (repeat (first | assumption | exact Below.refl _ _ | refine below_alloc' ?_ | refine below_drew' ?_ | refine below_step (by assumption) ?_)))) HZZX ?_; intro w9 b9))
    all_goals
      go_wp2
      go_ret
      exact ⟨rfl, below_trans b0 (by with_reducible (repeat (first | assumption | exact Below.refl _ _ | refine below_alloc' ?_ | refine below_drew' ?_ | refine below_step (by assumption) ?_)))⟩
end Go.Proofs.Ytcembocnkndlhaa
