/- The law DiskMatchesReference. -/
import Derived.Test.YtcembocnkndlhaaVb
import Derived.Test.YtcembocnkndlhaaL7
import Derived.Test.YtcembocnkndlhaaRh
import Derived.Test.YtcembocnkndlhaaRj
import Derived.Test.YtcembocnkndlhaaRk
import Derived.Test.YtcembocnkndlhaaRl
namespace Go.Proofs.Ytcembocnkndlhaa
open Go.RowKit
theorem rcrash_ts {v : Value} {d d' : Dk} {k t : Int} {w : World} {Q : Ending → World → Prop} (h : IsDisk w v d) (hr : Hid (crashD d k t = d')) (q : ∀ pa pc wa wc w', IsDisk w' (.agg #[.slice pa d'.pages.length pc, .slice wa d'.writes.length wc, .bool d'.down]) d' → Below w.heap.size w w' → Q (.returned (.agg #[.slice pa d'.pages.length pc, .slice wa d'.writes.length wc, .bool d'.down])) w') : Calls Try.prog 28 #[v, .int .i64 k, .int .i64 t] w Q :=
  (rCrash_any v d k t w h).mono fun e w' hres => by
    obtain ⟨pa, pc, wa, wc, rfl, hD, hB⟩ := hres.to hr
    exact q pa pc wa wc w' hD hB
theorem rrestart_ts {v : Value} {d d' : Dk} {w : World} {Q : Ending → World → Prop} (h : IsDisk w v d) (hl : d.writes.length ≤ 100000000) (hr : Hid (restartD d = d')) (q : ∀ pa pc wa wc w', IsDisk w' (.agg #[.slice pa d'.pages.length pc, .slice wa d'.writes.length wc, .bool d'.down]) d' → Below w.heap.size w w' → Q (.returned (.agg #[.slice pa d'.pages.length pc, .slice wa d'.writes.length wc, .bool d'.down])) w') : Calls Try.prog 30 #[v] w Q :=
  (rRestart_any v d w h hl).mono fun e w' hres => by
    obtain ⟨pa, pc, wa, wc, rfl, hD, hB⟩ := hres.to hr
    exact q pa pc wa wc w' hD hB
theorem new_ts {d' : Dk} {w : World} {Q : Ending → World → Prop} (hr : Hid (noDisk = d')) (q : ∀ pa pc wa wc w', IsDisk w' (.agg #[.slice pa d'.pages.length pc, .slice wa d'.writes.length wc, .bool d'.down]) d' → Below w.heap.size w w' → Q (.returned (.agg #[.slice pa d'.pages.length pc, .slice wa d'.writes.length wc, .bool d'.down])) w') : Calls Try.prog 31 #[] w Q :=
  (New_any w).mono fun e w' hres => by
    obtain ⟨pa, pc, wa, wc, rfl, hD, hB⟩ := hres.to hr
    exact q pa pc wa wc w' hD hB
theorem rnew_ts {d' : Dk} {w : World} {Q : Ending → World → Prop} (hr : Hid (noDisk = d')) (q : ∀ pa pc wa wc w', IsDisk w' (.agg #[.slice pa d'.pages.length pc, .slice wa d'.writes.length wc, .bool d'.down]) d' → Below w.heap.size w w' → Q (.returned (.agg #[.slice pa d'.pages.length pc, .slice wa d'.writes.length wc, .bool d'.down])) w') : Calls Try.prog 32 #[] w Q :=
  (rNew_any w).mono fun e w' hres => by
    obtain ⟨pa, pc, wa, wc, rfl, hD, hB⟩ := hres.to hr
    exact q pa pc wa wc w' hD hB
theorem small_writes {d : Dk} (h : smallD d = true) : d.writes.length ≤ 24 := by
  unfold smallD at h
  simp at h
  exact h.1.1.2
set_option maxHeartbeats 16000000 in
set_option maxRecDepth 100000 in
theorem law3_any (v : Value) (d : Dk) (k : Int) (bv : Value) (l : List UInt8) (keep torn : Int) (w : World) (h0 : IsDisk w v d) (tb : IsBytes w bv l) : Calls Try.prog 3 #[v, .int .i64 k, bv, .int .i64 keep, .int .i64 torn] w fun e w' => e = .returned (.bool true) ∧ Below w.heap.size w w' := by
  have TB := tb
  obtain ⟨bpa, bpc, rfl, -, mb⟩ := id tb
  obtain ⟨pa0, pc0, wa0, wc0, rfl, -, -, m1, m2, m3⟩ := h0.shape
  have H0 := h0
  obtain ⟨w1, hB0⟩ : ∃ x : World, x = w.alloc (.cells #[.slice pa0 d.pages.length pc0, .slice wa0 d.writes.length wc0, .bool d.down] 25) := ⟨_, rfl⟩
  have bp : _ ∧ _ := ⟨heap_alloc_new w (.cells #[.slice pa0 d.pages.length pc0, .slice wa0 d.writes.length wc0, .bool d.down] 25), below_new w (.cells #[.slice pa0 d.pages.length pc0, .slice wa0 d.writes.length wc0, .bool d.down] 25)⟩
  rw [← hB0] at bp
  obtain ⟨g0, bN⟩ := bp
  replace h0 := h0.keep bN
  replace tb := tb.keep bN
  have b0 := bN
  clear bN
  go_enter Try.func3, Try.ntmps3
  go_wp2_with fail
  rw [← hB0]
  clear hB0
  refine (head_any _).mono ?_
  intro e w2 hres
  obtain ⟨rfl, bN⟩ := hres
  replace g0 := block_keep g0 bN
  replace h0 := h0.keep bN
  replace tb := tb.keep bN
  replace b0 := below_trans b0 bN
  clear bN
  obtain ⟨y00, y01, y02, f00, f01, f02⟩ := Box3.of g0
  go_wp2_with fail
  refine (Small_any _ d _ h0).mono ?_
  rintro e w9 ⟨rfl, bN⟩
  clear y00 y01 y02 f00 f01 f02
  replace g0 := block_keep g0 bN
  replace h0 := h0.keep bN
  replace tb := tb.keep bN
  replace b0 := below_trans b0 bN
  clear bN
  cases hfi : smallD d
  · go_wp2
    go_ret
    exact ⟨rfl, b0⟩
  by_cases hl2 : l.length ≤ 200
  case neg =>
    have hq : decide (200 < (l.length : Int)) = true := decide_eq_true (by omega)
    go_wp2
    go_ret
    exact ⟨rfl, b0⟩
  have hq : decide (200 < (l.length : Int)) = false := decide_eq_false (by omega)
  have hwl := small_writes hfi
  clear hfi
  obtain ⟨xd, r, HW⟩ : ∃ x r, Hid (writeD d k l = (x, r)) := ⟨_, _, Lib.hid rfl⟩
  obtain ⟨y, r2, HS⟩ : ∃ x r, Hid (syncD d = (x, r)) := ⟨_, _, Lib.hid rfl⟩
  obtain ⟨bs, r3, HR⟩ : ∃ x r, Hid (readD d k = (x, r)) := ⟨_, _, Lib.hid rfl⟩
  obtain ⟨c, HC⟩ : ∃ x, Hid (crashD d keep torn = x) := ⟨_, Lib.hid rfl⟩
  obtain ⟨t, HT⟩ : ∃ x, Hid (restartD d = x) := ⟨_, Lib.hid rfl⟩
  obtain ⟨z, HZ⟩ : ∃ x, Hid (noDisk = x) := ⟨_, Lib.hid rfl⟩
  have e1 : (r != r) = false := by simp
  have e2 : (r2 != r2) = false := by simp
  have e3 : (r3 != r3) = false := by simp
  have hw8 : d.writes.length ≤ 100000000 := by omega
  go_upto_region 4 with fail
  clear hq
  obtain ⟨y00, y01, y02, f00, f01, f02⟩ := Box3.of g0
  go_wp2_with fail
  refine (Write_any _ d k _ l _ h0 tb (by omega)).mono ?_
  intro e w10 hres
  obtain ⟨pa1, pc1, wa1, wc1, rfl, h1, bN⟩ := hres.to HW
  clear y00 y01 y02 f00 f01 f02
  replace g0 := block_keep g0 bN
  replace h0 := h0.keep bN
  replace tb := tb.keep bN
  replace b0 := below_trans b0 bN
  clear bN
  have hz1 := b0.size
  have hl0 := block_lt g0
  obtain ⟨w11, hB1⟩ : ∃ x : World, x = w10.alloc (.cells #[(.slice pa1 xd.pages.length pc1), (.slice wa1 xd.writes.length wc1), (.bool xd.down)] 25) := ⟨_, rfl⟩
  have bp : _ ∧ _ := ⟨heap_alloc_new w10 (.cells #[(.slice pa1 xd.pages.length pc1), (.slice wa1 xd.writes.length wc1), (.bool xd.down)] 25), below_new w10 (.cells #[(.slice pa1 xd.pages.length pc1), (.slice wa1 xd.writes.length wc1), (.bool xd.down)] 25)⟩
  rw [← hB1] at bp
  obtain ⟨g1, bN⟩ := bp
  replace g0 := block_keep g0 bN
  replace h0 := h0.keep bN
  replace h1 := h1.keep bN
  replace tb := tb.keep bN
  replace b0 := below_trans b0 bN
  clear bN
  go_upto_region 5 with fail
  rw [← hB1]
  clear hB1
  obtain ⟨y00, y01, y02, f00, f01, f02⟩ := Box3.of g0
  go_wp2_with fail
  refine (rWrite_any _ d k _ l _ h0 tb (by omega)).mono ?_
  intro e w12 hres
  obtain ⟨pa2, pc2, wa2, wc2, rfl, h2, bN⟩ := hres.to HW
  clear y00 y01 y02 f00 f01 f02
  replace g0 := block_keep g0 bN
  replace g1 := block_keep g1 bN
  replace h0 := h0.keep bN
  replace h1 := h1.keep bN
  replace tb := tb.keep bN
  replace b0 := below_trans b0 bN
  clear bN
  have hz2 := b0.size
  have hl1 := block_lt g1
  obtain ⟨w13, hB2⟩ : ∃ x : World, x = w12.alloc (.cells #[(.slice pa2 xd.pages.length pc2), (.slice wa2 xd.writes.length wc2), (.bool xd.down)] 25) := ⟨_, rfl⟩
  have bp : _ ∧ _ := ⟨heap_alloc_new w12 (.cells #[(.slice pa2 xd.pages.length pc2), (.slice wa2 xd.writes.length wc2), (.bool xd.down)] 25), below_new w12 (.cells #[(.slice pa2 xd.pages.length pc2), (.slice wa2 xd.writes.length wc2), (.bool xd.down)] 25)⟩
  rw [← hB2] at bp
  obtain ⟨g2, bN⟩ := bp
  replace g0 := block_keep g0 bN
  replace g1 := block_keep g1 bN
  replace h0 := h0.keep bN
  replace h1 := h1.keep bN
  replace h2 := h2.keep bN
  replace tb := tb.keep bN
  replace b0 := below_trans b0 bN
  clear bN
  go_upto_region 6 with fail
  rw [← hB2]
  clear hB2
  obtain ⟨y00, y01, y02, f00, f01, f02⟩ := Box3.of g1
  obtain ⟨y10, y11, y12, f10, f11, f12⟩ := Box3.of g2
  go_wp2_with fail
  refine same_ts h1 h2 (Lib.hid rfl) ?_
  intro w14 bN
  clear y00 y01 y02 f00 f01 f02
  clear y10 y11 y12 f10 f11 f12
  replace g0 := block_keep g0 bN
  replace g1 := block_keep g1 bN
  replace g2 := block_keep g2 bN
  replace h0 := h0.keep bN
  replace h1 := h1.keep bN
  replace h2 := h2.keep bN
  replace tb := tb.keep bN
  replace b0 := below_trans b0 bN
  clear bN
  go_upto_region 8 with fail
  clear h1 h2
  have hl2 := block_lt g2
  obtain ⟨y00, y01, y02, f00, f01, f02⟩ := Box3.of g0
  go_wp2_with fail
  refine (Sync_off (fun i => i = w10.heap.size ∨ i = w12.heap.size) _ d _ h0 (by rintro _ (rfl | rfl) <;> first | exact block_lt g1 | exact block_lt g2)).mono ?_
  intro e w15 hres
  obtain ⟨pa3, pc3, wa3, wc3, rfl, o3, bN⟩ := hres.to HS
  clear y00 y01 y02 f00 f01 f02
  replace g0 := block_keep g0 bN
  replace g1 := block_keep g1 bN
  replace g2 := block_keep g2 bN
  replace h0 := h0.keep bN
  replace tb := tb.keep bN
  replace b0 := below_trans b0 bN
  clear bN
  obtain ⟨y00, y01, y02, f00, f01, f02⟩ := Box3.of g1
  go_upto_region 9 with fail
  clear y00 y01 y02 f00 f01 f02
  obtain ⟨w16, hS⟩ : ∃ x : World, x = (((w15.setCell ⟨w10.heap.size, 0, none⟩ (.slice pa3 y.pages.length pc3)).setCell ⟨w10.heap.size, 1, none⟩ (.slice wa3 y.writes.length wc3)).setCell ⟨w10.heap.size, 2, none⟩ (.bool y.down)) := ⟨_, rfl⟩
  rw [← hS]
  replace b0 := set3_below (β := w10.heap.size) (.slice pa3 y.pages.length pc3) (.slice wa3 y.writes.length wc3) (.bool y.down) b0 (by omega)
  rw [← hS] at b0
  replace o3 := (OffDisk.set3 (β := w10.heap.size) o3 (Or.inl rfl) (.slice pa3 y.pages.length pc3) (.slice wa3 y.writes.length wc3) (.bool y.down))
  rw [← hS] at o3
  replace g0 := (set3_ne (β := w10.heap.size) (.slice pa3 y.pages.length pc3) (.slice wa3 y.writes.length wc3) (.bool y.down) (by omega)).trans g0
  rw [← hS] at g0
  replace g2 := (set3_ne (β := w10.heap.size) (.slice pa3 y.pages.length pc3) (.slice wa3 y.writes.length wc3) (.bool y.down) (by omega)).trans g2
  rw [← hS] at g2
  replace g1 := Box3.set (x := (.slice pa3 y.pages.length pc3)) (y := (.slice wa3 y.writes.length wc3)) (z := (.bool y.down)) g1
  rw [← hS] at g1
  replace h0 := H0.keep b0
  replace tb := TB.keep b0
  clear hS
  obtain ⟨y00, y01, y02, f00, f01, f02⟩ := Box3.of g0
  go_wp2_with fail
  refine (rSync_off (fun i => i = w10.heap.size ∨ i = w12.heap.size) _ d _ h0 (by rintro _ (rfl | rfl) <;> first | exact block_lt g1 | exact block_lt g2)).mono ?_
  intro e w17 hres
  obtain ⟨pa4, pc4, wa4, wc4, rfl, o4, bN⟩ := hres.to HS
  clear y00 y01 y02 f00 f01 f02
  replace g0 := block_keep g0 bN
  replace g1 := block_keep g1 bN
  replace g2 := block_keep g2 bN
  replace h0 := h0.keep bN
  replace tb := tb.keep bN
  replace b0 := below_trans b0 bN
  replace o3 := o3.keep bN
  clear bN
  obtain ⟨y00, y01, y02, f00, f01, f02⟩ := Box3.of g2
  go_upto_region 10 with fail
  clear y00 y01 y02 f00 f01 f02
  obtain ⟨w18, hS⟩ : ∃ x : World, x = (((w17.setCell ⟨w12.heap.size, 0, none⟩ (.slice pa4 y.pages.length pc4)).setCell ⟨w12.heap.size, 1, none⟩ (.slice wa4 y.writes.length wc4)).setCell ⟨w12.heap.size, 2, none⟩ (.bool y.down)) := ⟨_, rfl⟩
  rw [← hS]
  replace b0 := set3_below (β := w12.heap.size) (.slice pa4 y.pages.length pc4) (.slice wa4 y.writes.length wc4) (.bool y.down) b0 (by omega)
  rw [← hS] at b0
  replace o3 := (OffDisk.set3 (β := w12.heap.size) o3 (Or.inr rfl) (.slice pa4 y.pages.length pc4) (.slice wa4 y.writes.length wc4) (.bool y.down))
  rw [← hS] at o3
  replace o4 := (OffDisk.set3 (β := w12.heap.size) o4 (Or.inr rfl) (.slice pa4 y.pages.length pc4) (.slice wa4 y.writes.length wc4) (.bool y.down))
  rw [← hS] at o4
  replace g0 := (set3_ne (β := w12.heap.size) (.slice pa4 y.pages.length pc4) (.slice wa4 y.writes.length wc4) (.bool y.down) (by omega)).trans g0
  rw [← hS] at g0
  replace g1 := (set3_ne (β := w12.heap.size) (.slice pa4 y.pages.length pc4) (.slice wa4 y.writes.length wc4) (.bool y.down) (by omega)).trans g1
  rw [← hS] at g1
  replace g2 := Box3.set (x := (.slice pa4 y.pages.length pc4)) (y := (.slice wa4 y.writes.length wc4)) (z := (.bool y.down)) g2
  rw [← hS] at g2
  replace h0 := H0.keep b0
  replace tb := TB.keep b0
  clear hS
  have h3 := o3.is
  have h4 := o4.is
  clear o3 o4
  obtain ⟨y00, y01, y02, f00, f01, f02⟩ := Box3.of g0
  go_wp2_with fail
  refine (Read_any _ d k _ h0).mono ?_
  intro e w19 hres
  obtain ⟨pa5, pc5, rfl, t5, bN⟩ := hres.to HR
  clear y00 y01 y02 f00 f01 f02
  replace g0 := block_keep g0 bN
  replace g1 := block_keep g1 bN
  replace g2 := block_keep g2 bN
  replace h0 := h0.keep bN
  replace h3 := h3.keep bN
  replace h4 := h4.keep bN
  replace tb := tb.keep bN
  replace b0 := below_trans b0 bN
  clear bN
  obtain ⟨y00, y01, y02, f00, f01, f02⟩ := Box3.of g0
  go_wp2_with fail
  refine (rRead_any _ d k _ h0).mono ?_
  intro e w20 hres
  obtain ⟨pa6, pc6, rfl, t6, bN⟩ := hres.to HR
  clear y00 y01 y02 f00 f01 f02
  replace g0 := block_keep g0 bN
  replace g1 := block_keep g1 bN
  replace g2 := block_keep g2 bN
  replace h0 := h0.keep bN
  replace h3 := h3.keep bN
  replace h4 := h4.keep bN
  replace tb := tb.keep bN
  replace t5 := t5.keep bN
  replace b0 := below_trans b0 bN
  clear bN
  obtain ⟨y00, y01, y02, f00, f01, f02⟩ := Box3.of g1
  obtain ⟨y10, y11, y12, f10, f11, f12⟩ := Box3.of g2
  go_wp2_with fail
  refine same_ts h3 h4 (Lib.hid rfl) ?_
  intro w21 bN
  clear y00 y01 y02 f00 f01 f02
  clear y10 y11 y12 f10 f11 f12
  replace g0 := block_keep g0 bN
  replace g1 := block_keep g1 bN
  replace g2 := block_keep g2 bN
  replace h0 := h0.keep bN
  replace h3 := h3.keep bN
  replace h4 := h4.keep bN
  replace tb := tb.keep bN
  replace t5 := t5.keep bN
  replace t6 := t6.keep bN
  replace b0 := below_trans b0 bN
  clear bN
  go_wp2_with fail
  refine sameb_ts t5 t6 (Lib.hid rfl) ?_
  intro w22 bN
  replace g0 := block_keep g0 bN
  replace g1 := block_keep g1 bN
  replace g2 := block_keep g2 bN
  replace h0 := h0.keep bN
  replace h3 := h3.keep bN
  replace h4 := h4.keep bN
  replace tb := tb.keep bN
  replace t5 := t5.keep bN
  replace t6 := t6.keep bN
  replace b0 := below_trans b0 bN
  clear bN
  go_upto_region 14 with fail
  have HS : ∀ w', Below w22.heap.size w22 w' → w'.cell? ⟨w.heap.size, 0, none⟩ = some (.slice pa0 d.pages.length pc0) ∧ w'.cell? ⟨w.heap.size, 1, none⟩ = some (.slice wa0 d.writes.length wc0) ∧ w'.cell? ⟨w.heap.size, 2, none⟩ = some (.bool d.down) := fun w' hb => ⟨(Box3.of (block_keep g0 hb)).c0, (Box3.of (block_keep g0 hb)).c1, (Box3.of (block_keep g0 hb)).c2⟩
  go_region_held3 (fun w' => w'.cell? ⟨w.heap.size, 0, none⟩ = some (.slice pa0 d.pages.length pc0) ∧ w'.cell? ⟨w.heap.size, 1, none⟩ = some (.slice wa0 d.writes.length wc0) ∧ w'.cell? ⟨w.heap.size, 2, none⟩ = some (.bool d.down))
    (first | exact HS _ (by with_reducible (repeat (first | assumption | exact Below.refl _ _ | refine below_alloc' ?_ | refine below_drew' ?_ | refine below_step (by assumption) ?_))))
    (first
      | (go_at_call 27; refine crash_ts (d := d) (IsDisk.keep h0 (by with_reducible (repeat (first | assumption | exact Below.refl _ _ | refine below_alloc' ?_ | refine below_drew' ?_ | refine below_step (by assumption) ?_)))) HC ?_; intro pa7 pc7 wa7 wc7 wq7 h7 b7)
      | (go_at_call 28; refine rcrash_ts (d := d) (IsDisk.keep h0 (by with_reducible (repeat (first | assumption | exact Below.refl _ _ | refine below_alloc' ?_ | refine below_drew' ?_ | refine below_step (by assumption) ?_)))) HC ?_; intro pa8 pc8 wa8 wc8 wq8 h8 b8)
      | (go_at_call 29; refine restart_ts (d := d) (IsDisk.keep h0 (by with_reducible (repeat (first | assumption | exact Below.refl _ _ | refine below_alloc' ?_ | refine below_drew' ?_ | refine below_step (by assumption) ?_)))) HT ?_; intro pa9 pc9 wa9 wc9 wq9 h9 b9)
      | (go_at_call 30; refine rrestart_ts (d := d) (IsDisk.keep h0 (by with_reducible (repeat (first | assumption | exact Below.refl _ _ | refine below_alloc' ?_ | refine below_drew' ?_ | refine below_step (by assumption) ?_)))) hw8 HT ?_; intro pa10 pc10 wa10 wc10 wq10 h10 b10)
      | (go_at_call 31; refine new_ts HZ ?_; intro pa11 pc11 wa11 wc11 wq11 h11 b11)
      | (go_at_call 32; refine rnew_ts HZ ?_; intro pa12 pc12 wa12 wc12 wq12 h12 b12)
      | (go_at_call 21; refine same_ts (a := c) (b := c) (IsDisk.keep h7 (by with_reducible (repeat (first | assumption | exact Below.refl _ _ | refine below_alloc' ?_ | refine below_drew' ?_ | refine below_step (by assumption) ?_)))) (IsDisk.keep h8 (by with_reducible (repeat (first | assumption | exact Below.refl _ _ | refine below_alloc' ?_ | refine below_drew' ?_ | refine below_step (by assumption) ?_)))) (Lib.hid rfl) ?_; intro wq13 b13)
      | (go_at_call 21; refine same_ts (a := t) (b := t) (IsDisk.keep h9 (by with_reducible (repeat (first | assumption | exact Below.refl _ _ | refine below_alloc' ?_ | refine below_drew' ?_ | refine below_step (by assumption) ?_)))) (IsDisk.keep h10 (by with_reducible (repeat (first | assumption | exact Below.refl _ _ | refine below_alloc' ?_ | refine below_drew' ?_ | refine below_step (by assumption) ?_)))) (Lib.hid rfl) ?_; intro wq14 b14)
      | (go_at_call 21; refine same_ts (a := z) (b := z) (IsDisk.keep h11 (by with_reducible (repeat (first | assumption | exact Below.refl _ _ | refine below_alloc' ?_ | refine below_drew' ?_ | refine below_step (by assumption) ?_)))) (IsDisk.keep h12 (by with_reducible (repeat (first | assumption | exact Below.refl _ _ | refine below_alloc' ?_ | refine below_drew' ?_ | refine below_step (by assumption) ?_)))) (Lib.hid rfl) ?_; intro wq15 b15))
  all_goals
    go_wp2
    go_ret
    exact ⟨rfl, below_trans b0 (by with_reducible (repeat (first | assumption | exact Below.refl _ _ | refine below_alloc' ?_ | refine below_drew' ?_ | refine below_step (by assumption) ?_)))⟩
end Go.Proofs.Ytcembocnkndlhaa
