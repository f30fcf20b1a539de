/- The law DiskForm. -/
import Derived.Test.YtcembocnkndlhaaRm
import Derived.Test.YtcembocnkndlhaaL3
namespace Go.Proofs.Ytcembocnkndlhaa
open Go.RowKit
theorem small_len {d : Dk} (h : smallD d = true) : d.pages.length ≤ 24 ∧ d.writes.length ≤ 24 ∧ (∀ p ∈ d.pages, p.length ≤ 70) ∧ ∀ x ∈ d.writes, x.data.length ≤ 70 := by
  unfold smallD big at h
  simp only [Bool.and_eq_true, decide_eq_true_eq, Bool.not_eq_true', List.any_eq_false] at h
  obtain ⟨⟨⟨h1, h2⟩, h3⟩, h4⟩ := h
  exact ⟨h1, h2, fun p hp => by have := h3 p hp; omega, fun x hx => by have := h4 x hx; omega⟩
theorem formed_none : formed noDisk = true := by decide
theorem law9_facts {d : Dk} (k : Int) (l : List UInt8) (keep torn : Int) (h : smallD d = true) : ∃ (a b c r : Dk) (e f : Int), Hid (writeD d k l = (a, e)) ∧ a.writes.length ≤ 100 ∧ a.pages.length ≤ 100 ∧ Hid (∀ p ∈ a.pages, p.length ≤ 1000000) ∧ Hid (∀ x ∈ a.writes, x.data.length ≤ 1000000) ∧ Hid (e = 0 → formed a = true) ∧ Hid (syncD d = (b, f)) ∧ Hid (f = 0 → formed b = true) ∧ Hid (crashD d keep torn = c) ∧ Hid (formed c = true) ∧ Hid (restartD d = r) ∧ Hid (formed r = true) := by
  obtain ⟨h1, h2, h3, h4⟩ := small_len h
  have hW : ∃ a e, writeD d k l = (a, e) ∧ a.writes.length ≤ 100 ∧ a.pages.length ≤ 100 ∧ (∀ p ∈ a.pages, p.length ≤ 1000000) ∧ (∀ x ∈ a.writes, x.data.length ≤ 1000000) ∧ (e = 0 → formed a = true) := by
    unfold writeD
    split
    · exact ⟨_, _, rfl, by simp [noDisk], by simp [noDisk], by simp [noDisk], by simp [noDisk], fun _ => formed_none⟩
    · split
      · exact ⟨_, _, rfl, by simp [noDisk], by simp [noDisk], by simp [noDisk], by simp [noDisk], fun _ => formed_none⟩
      · rename_i hf
        have hf : failure d k = 0 := Classical.byContradiction fun x => hf x
        obtain ⟨f1, f2, f3, f4⟩ := failure_zero hf
        refine ⟨_, _, rfl, by simp; omega, by dsimp only; omega, fun p hp => by have := h3 p hp; omega, fun x hx => ?_, fun _ => formed_write f1 f2 f3 f4⟩
        rcases List.mem_append.1 hx with hx | hx
        · have := h4 x hx; omega
        · obtain rfl := List.mem_singleton.1 hx
          have := length_full l; dsimp only; omega
  have hS : ∃ b f, syncD d = (b, f) ∧ (f = 0 → formed b = true) := by
    unfold syncD
    split
    · exact ⟨_, _, rfl, fun _ => formed_none⟩
    · rename_i hf
      have hf : failure d 0 = 0 := Classical.byContradiction fun x => hf x
      exact ⟨_, _, rfl, fun _ => formed_sync (failure_zero hf).1⟩
  have hC : formed (crashD d keep torn) = true := by
    unfold crashD
    split
    · exact formed_crash ‹_› keep torn true
    · exact formed_none
  have hR : formed (restartD d) = true := by
    unfold restartD
    split
    · rename_i hf
      have := (formed_iff d).1 hf
      exact (formed_iff _).2 ⟨this.1, this.2.1, this.2.2.1, fun e => by cases e⟩
    · exact formed_none
  obtain ⟨a, e, w1, w2, w3, w4, w5, w6⟩ := hW
  obtain ⟨b, f, s1, s2⟩ := hS
  exact ⟨a, b, _, _, e, f, Lib.hid w1, w2, w3, Lib.hid w4, Lib.hid w5, Lib.hid w6, Lib.hid s1, Lib.hid s2, Lib.hid rfl, Lib.hid hC, Lib.hid rfl, Lib.hid hR⟩
set_option maxHeartbeats 16000000 in
set_option maxRecDepth 100000 in
theorem law9_any (v : Value) (d : Dk) (k : Int) (bv : Value) (l : List UInt8) (keep torn : Int) (w : World) (h0 : IsDisk w v d) (tb : IsBytes w bv l) : Calls Try.prog 9 #[v, .int .i64 k, bv, .int .i64 keep, .int .i64 torn] w fun e w' => e = .returned (.bool true) ∧ Below w.heap.size w w' := by
  obtain ⟨bpa, bpc, rfl, -, mb⟩ := id tb
  obtain ⟨pa0, pc0, wa0, wc0, rfl, -, -, m1, m2, m3⟩ := h0.shape
  obtain ⟨w1, hB0⟩ : ∃ x : World, x = w.alloc (.cells #[.slice pa0 d.pages.length pc0, .slice wa0 d.writes.length wc0, .bool d.down] 25) := ⟨_, rfl⟩
  have bp : _ ∧ _ := ⟨heap_alloc_new w (.cells #[.slice pa0 d.pages.length pc0, .slice wa0 d.writes.length wc0, .bool d.down] 25), below_new w (.cells #[.slice pa0 d.pages.length pc0, .slice wa0 d.writes.length wc0, .bool d.down] 25)⟩
  rw [← hB0] at bp
  obtain ⟨g0, bN⟩ := bp
  replace h0 := h0.keep bN
  replace tb := tb.keep bN
  have b0 := bN
  clear bN
  go_enter Try.func9, Try.ntmps9
  go_wp2_with fail
  rw [← hB0]
  clear hB0
  refine (head_any _).mono ?_
  intro e w2 hres
  obtain ⟨rfl, bN⟩ := hres
  replace g0 := block_keep g0 bN
  replace h0 := h0.keep bN
  replace tb := tb.keep bN
  replace b0 := below_trans b0 bN
  clear bN
  obtain ⟨y00, y01, y02, f00, f01, f02⟩ := Box3.of g0
  go_wp2_with fail
  refine (Small_any _ d _ h0).mono ?_
  rintro e w9 ⟨rfl, bN⟩
  clear y00 y01 y02 f00 f01 f02
  replace g0 := block_keep g0 bN
  replace h0 := h0.keep bN
  replace tb := tb.keep bN
  replace b0 := below_trans b0 bN
  clear bN
  cases hfi : smallD d
  · go_wp2
    go_ret
    exact ⟨rfl, b0⟩
  by_cases hl2 : l.length ≤ 200
  case neg =>
    have hq : decide (200 < (l.length : Int)) = true := decide_eq_true (by omega)
    go_wp2
    go_ret
    exact ⟨rfl, b0⟩
  have hq : decide (200 < (l.length : Int)) = false := decide_eq_false (by omega)
  obtain ⟨a, b, c, r, e, f, HW, na, ma, HPa, HWa, HFa, HS, HFb, HC, HFc, HT, HFr⟩ := law9_facts k l keep torn hfi
  obtain ⟨n1, n2, n3, n4⟩ := small_len hfi
  have HPd : Hid (∀ p ∈ d.pages, p.length ≤ 1000000) := Lib.hid fun p hp => by have := n3 p hp; omega
  have HWd : Hid (∀ x ∈ d.writes, x.data.length ≤ 1000000) := Lib.hid fun x hx => by have := n4 x hx; omega
  clear hfi n3 n4
  go_upto_region 4 with fail
  clear hq
  obtain ⟨y00, y01, y02, f00, f01, f02⟩ := Box3.of g0
  go_wp2_with fail
  refine (Copy_any _ d _ h0 (by omega) (by omega) HPd HWd).mono ?_
  intro e w10 hres
  obtain ⟨pa1, pc1, wa1, wc1, rfl, h1, bN⟩ := hres.to (Lib.hid rfl)
  clear y00 y01 y02 f00 f01 f02
  replace g0 := block_keep g0 bN
  replace h0 := h0.keep bN
  replace tb := tb.keep bN
  replace b0 := below_trans b0 bN
  clear bN
  obtain ⟨w11, hB1⟩ : ∃ x : World, x = w10.alloc (.cells #[(.slice pa1 d.pages.length pc1), (.slice wa1 d.writes.length wc1), (.bool d.down)] 25) := ⟨_, rfl⟩
  have bp : _ ∧ _ := ⟨heap_alloc_new w10 (.cells #[(.slice pa1 d.pages.length pc1), (.slice wa1 d.writes.length wc1), (.bool d.down)] 25), below_new w10 (.cells #[(.slice pa1 d.pages.length pc1), (.slice wa1 d.writes.length wc1), (.bool d.down)] 25)⟩
  rw [← hB1] at bp
  obtain ⟨g1, bN⟩ := bp
  replace g0 := block_keep g0 bN
  replace h0 := h0.keep bN
  replace h1 := h1.keep bN
  replace tb := tb.keep bN
  replace b0 := below_trans b0 bN
  clear bN
  go_upto_region 5 with fail
  rw [← hB1]
  clear hB1
  obtain ⟨y00, y01, y02, f00, f01, f02⟩ := Box3.of g0
  go_wp2_with fail
  refine (Write_any _ d k _ l _ h0 tb (by omega)).mono ?_
  intro e w12 hres
  obtain ⟨pa2, pc2, wa2, wc2, rfl, h2, bN⟩ := hres.to HW
  clear y00 y01 y02 f00 f01 f02
  replace g0 := block_keep g0 bN
  replace g1 := block_keep g1 bN
  replace h0 := h0.keep bN
  replace h1 := h1.keep bN
  replace tb := tb.keep bN
  replace b0 := below_trans b0 bN
  clear bN
  obtain ⟨w13, hB2⟩ : ∃ x : World, x = w12.alloc (.cells #[(.slice pa2 a.pages.length pc2), (.slice wa2 a.writes.length wc2), (.bool a.down)] 25) := ⟨_, rfl⟩
  have bp : _ ∧ _ := ⟨heap_alloc_new w12 (.cells #[(.slice pa2 a.pages.length pc2), (.slice wa2 a.writes.length wc2), (.bool a.down)] 25), below_new w12 (.cells #[(.slice pa2 a.pages.length pc2), (.slice wa2 a.writes.length wc2), (.bool a.down)] 25)⟩
  rw [← hB2] at bp
  obtain ⟨g2, bN⟩ := bp
  replace g0 := block_keep g0 bN
  replace g1 := block_keep g1 bN
  replace h0 := h0.keep bN
  replace h1 := h1.keep bN
  replace h2 := h2.keep bN
  replace tb := tb.keep bN
  replace b0 := below_trans b0 bN
  clear bN
  go_upto_region 6 with fail
  rw [← hB2]
  clear hB2
  obtain ⟨y00, y01, y02, f00, f01, f02⟩ := Box3.of g0
  go_wp2_with fail
  refine (Sync_any _ d _ h0).mono ?_
  intro e w14 hres
  obtain ⟨pa3, pc3, wa3, wc3, rfl, h3, bN⟩ := hres.to HS
  clear y00 y01 y02 f00 f01 f02
  replace g0 := block_keep g0 bN
  replace g1 := block_keep g1 bN
  replace g2 := block_keep g2 bN
  replace h0 := h0.keep bN
  replace h1 := h1.keep bN
  replace h2 := h2.keep bN
  replace tb := tb.keep bN
  replace b0 := below_trans b0 bN
  clear bN
  obtain ⟨w15, hB3⟩ : ∃ x : World, x = w14.alloc (.cells #[(.slice pa3 b.pages.length pc3), (.slice wa3 b.writes.length wc3), (.bool b.down)] 25) := ⟨_, rfl⟩
  have bp : _ ∧ _ := ⟨heap_alloc_new w14 (.cells #[(.slice pa3 b.pages.length pc3), (.slice wa3 b.writes.length wc3), (.bool b.down)] 25), below_new w14 (.cells #[(.slice pa3 b.pages.length pc3), (.slice wa3 b.writes.length wc3), (.bool b.down)] 25)⟩
  rw [← hB3] at bp
  obtain ⟨g3, bN⟩ := bp
  replace g0 := block_keep g0 bN
  replace g1 := block_keep g1 bN
  replace g2 := block_keep g2 bN
  replace h0 := h0.keep bN
  replace h1 := h1.keep bN
  replace h2 := h2.keep bN
  replace h3 := h3.keep bN
  replace tb := tb.keep bN
  replace b0 := below_trans b0 bN
  clear bN
  go_upto_region 7 with fail
  rw [← hB3]
  clear hB3
  obtain ⟨y00, y01, y02, f00, f01, f02⟩ := Box3.of g0
  go_wp2_with fail
  refine (Crash_any _ d keep torn _ h0).mono ?_
  intro e w16 hres
  obtain ⟨pa4, pc4, wa4, wc4, rfl, h4, bN⟩ := hres.to HC
  clear y00 y01 y02 f00 f01 f02
  replace g0 := block_keep g0 bN
  replace g1 := block_keep g1 bN
  replace g2 := block_keep g2 bN
  replace g3 := block_keep g3 bN
  replace h0 := h0.keep bN
  replace h1 := h1.keep bN
  replace h2 := h2.keep bN
  replace h3 := h3.keep bN
  replace tb := tb.keep bN
  replace b0 := below_trans b0 bN
  clear bN
  obtain ⟨w17, hB4⟩ : ∃ x : World, x = w16.alloc (.cells #[(.slice pa4 c.pages.length pc4), (.slice wa4 c.writes.length wc4), (.bool c.down)] 25) := ⟨_, rfl⟩
  have bp : _ ∧ _ := ⟨heap_alloc_new w16 (.cells #[(.slice pa4 c.pages.length pc4), (.slice wa4 c.writes.length wc4), (.bool c.down)] 25), below_new w16 (.cells #[(.slice pa4 c.pages.length pc4), (.slice wa4 c.writes.length wc4), (.bool c.down)] 25)⟩
  rw [← hB4] at bp
  obtain ⟨g4, bN⟩ := bp
  replace g0 := block_keep g0 bN
  replace g1 := block_keep g1 bN
  replace g2 := block_keep g2 bN
  replace g3 := block_keep g3 bN
  replace h0 := h0.keep bN
  replace h1 := h1.keep bN
  replace h2 := h2.keep bN
  replace h3 := h3.keep bN
  replace h4 := h4.keep bN
  replace tb := tb.keep bN
  replace b0 := below_trans b0 bN
  clear bN
  go_upto_region 8 with fail
  rw [← hB4]
  clear hB4
  obtain ⟨y00, y01, y02, f00, f01, f02⟩ := Box3.of g0
  go_wp2_with fail
  refine (Restart_any _ d _ h0).mono ?_
  intro e w18 hres
  obtain ⟨pa5, pc5, wa5, wc5, rfl, h5, bN⟩ := hres.to HT
  clear y00 y01 y02 f00 f01 f02
  replace g0 := block_keep g0 bN
  replace g1 := block_keep g1 bN
  replace g2 := block_keep g2 bN
  replace g3 := block_keep g3 bN
  replace g4 := block_keep g4 bN
  replace h0 := h0.keep bN
  replace h1 := h1.keep bN
  replace h2 := h2.keep bN
  replace h3 := h3.keep bN
  replace h4 := h4.keep bN
  replace tb := tb.keep bN
  replace b0 := below_trans b0 bN
  clear bN
  obtain ⟨w19, hB5⟩ : ∃ x : World, x = w18.alloc (.cells #[(.slice pa5 r.pages.length pc5), (.slice wa5 r.writes.length wc5), (.bool r.down)] 25) := ⟨_, rfl⟩
  have bp : _ ∧ _ := ⟨heap_alloc_new w18 (.cells #[(.slice pa5 r.pages.length pc5), (.slice wa5 r.writes.length wc5), (.bool r.down)] 25), below_new w18 (.cells #[(.slice pa5 r.pages.length pc5), (.slice wa5 r.writes.length wc5), (.bool r.down)] 25)⟩
  rw [← hB5] at bp
  obtain ⟨g5, bN⟩ := bp
  replace g0 := block_keep g0 bN
  replace g1 := block_keep g1 bN
  replace g2 := block_keep g2 bN
  replace g3 := block_keep g3 bN
  replace g4 := block_keep g4 bN
  replace h0 := h0.keep bN
  replace h1 := h1.keep bN
  replace h2 := h2.keep bN
  replace h3 := h3.keep bN
  replace h4 := h4.keep bN
  replace h5 := h5.keep bN
  replace tb := tb.keep bN
  replace b0 := below_trans b0 bN
  clear bN
  go_upto_region 9 with fail
  rw [← hB5]
  clear hB5
  obtain ⟨y00, y01, y02, f00, f01, f02⟩ := Box3.of g2
  go_wp2_with fail
  refine (Copy_any _ a _ h2 (by omega) (by omega) HPa HWa).mono ?_
  intro e w20 hres
  obtain ⟨pa6, pc6, wa6, wc6, rfl, h6, bN⟩ := hres.to (Lib.hid rfl)
  clear y00 y01 y02 f00 f01 f02
  replace g0 := block_keep g0 bN
  replace g1 := block_keep g1 bN
  replace g2 := block_keep g2 bN
  replace g3 := block_keep g3 bN
  replace g4 := block_keep g4 bN
  replace g5 := block_keep g5 bN
  replace h0 := h0.keep bN
  replace h1 := h1.keep bN
  replace h2 := h2.keep bN
  replace h3 := h3.keep bN
  replace h4 := h4.keep bN
  replace h5 := h5.keep bN
  replace tb := tb.keep bN
  replace b0 := below_trans b0 bN
  clear bN
  obtain ⟨w21, hB6⟩ : ∃ x : World, x = w20.alloc (.cells #[(.slice pa6 a.pages.length pc6), (.slice wa6 a.writes.length wc6), (.bool a.down)] 25) := ⟨_, rfl⟩
  have bp : _ ∧ _ := ⟨heap_alloc_new w20 (.cells #[(.slice pa6 a.pages.length pc6), (.slice wa6 a.writes.length wc6), (.bool a.down)] 25), below_new w20 (.cells #[(.slice pa6 a.pages.length pc6), (.slice wa6 a.writes.length wc6), (.bool a.down)] 25)⟩
  rw [← hB6] at bp
  obtain ⟨g6, bN⟩ := bp
  replace g0 := block_keep g0 bN
  replace g1 := block_keep g1 bN
  replace g2 := block_keep g2 bN
  replace g3 := block_keep g3 bN
  replace g4 := block_keep g4 bN
  replace g5 := block_keep g5 bN
  replace h0 := h0.keep bN
  replace h1 := h1.keep bN
  replace h2 := h2.keep bN
  replace h3 := h3.keep bN
  replace h4 := h4.keep bN
  replace h5 := h5.keep bN
  replace h6 := h6.keep bN
  replace tb := tb.keep bN
  replace b0 := below_trans b0 bN
  clear bN
  go_upto_region 10 with fail
  rw [← hB6]
  clear hB6
  go_wp2
  go_loopw [20] (fun i wr => ∃ j : Nat, j ≤ 3 ∧ i = .int .i64 j ∧ Below w21.heap.size w21 wr) (fun i _ => 3 - (intOf i).toNat)
  case atStart => exact ⟨0, by omega, rfl, Below.refl _ _⟩
  case round =>
    obtain ⟨j, hj, rfl, bN⟩ := hrel
    obtain ⟨wo, rfl⟩ : ∃ wo : World, wo = wr := ⟨_, rfl⟩
    have bL := Below.refl wo.heap.size wo
    replace g0 := block_keep g0 bN
    replace g1 := block_keep g1 bN
    replace g2 := block_keep g2 bN
    replace g3 := block_keep g3 bN
    replace g4 := block_keep g4 bN
    replace g5 := block_keep g5 bN
    replace g6 := block_keep g6 bN
    replace h0 := h0.keep bN
    replace h1 := h1.keep bN
    replace h2 := h2.keep bN
    replace h3 := h3.keep bN
    replace h4 := h4.keep bN
    replace h5 := h5.keep bN
    replace h6 := h6.keep bN
    replace tb := tb.keep bN
    replace b0 := below_trans b0 bN
    by_cases hlt : j < 3
    · have hj3 : decide ((j : Int) < 3) = true := decide_eq_true (by omega)
      obtain ⟨y00, y01, y02, f00, f01, f02⟩ := Box3.of g2
      go_wp2_with fail
      refine (Sync_any _ a _ h2).mono ?_
      intro e w22 hres
      obtain ⟨pa7, pc7, wa7, wc7, rfl, h7, bN⟩ := hres.to (Lib.hid rfl)
      clear y00 y01 y02 f00 f01 f02
      replace g0 := block_keep g0 bN
      replace g1 := block_keep g1 bN
      replace g2 := block_keep g2 bN
      replace g3 := block_keep g3 bN
      replace g4 := block_keep g4 bN
      replace g5 := block_keep g5 bN
      replace g6 := block_keep g6 bN
      replace h0 := h0.keep bN
      replace h1 := h1.keep bN
      replace h2 := h2.keep bN
      replace h3 := h3.keep bN
      replace h4 := h4.keep bN
      replace h5 := h5.keep bN
      replace h6 := h6.keep bN
      replace tb := tb.keep bN
      replace bL := below_trans bL bN
      replace b0 := below_trans b0 bN
      clear bN
      obtain ⟨y00, y01, y02, f00, f01, f02⟩ := Box3.of g2
      go_wp2_with fail
      refine (Crash_any _ a keep torn _ h2).mono ?_
      intro e w23 hres
      obtain ⟨pa8, pc8, wa8, wc8, rfl, h8, bN⟩ := hres.to (Lib.hid rfl)
      clear y00 y01 y02 f00 f01 f02
      replace g0 := block_keep g0 bN
      replace g1 := block_keep g1 bN
      replace g2 := block_keep g2 bN
      replace g3 := block_keep g3 bN
      replace g4 := block_keep g4 bN
      replace g5 := block_keep g5 bN
      replace g6 := block_keep g6 bN
      replace h0 := h0.keep bN
      replace h1 := h1.keep bN
      replace h2 := h2.keep bN
      replace h3 := h3.keep bN
      replace h4 := h4.keep bN
      replace h5 := h5.keep bN
      replace h6 := h6.keep bN
      replace h7 := h7.keep bN
      replace tb := tb.keep bN
      replace bL := below_trans bL bN
      replace b0 := below_trans b0 bN
      clear bN
      obtain ⟨y00, y01, y02, f00, f01, f02⟩ := Box3.of g2
      go_wp2_with fail
      have hl : IsBytes (w23.alloc (.cells #[.int .u8 1, .int .u8 2, .int .u8 3] 5)) (.slice (some ⟨w23.heap.size, 0, none⟩) 3 3) [1, 2, 3] := lit_bytes w23 [1, 2, 3] (by decide)
      refine (Write_any _ a 0 _ [1, 2, 3] _ (h2.keep (below_new _ _)) hl (by omega)).mono ?_
      intro e9 w24 hres
      obtain ⟨pa9, pc9, wa9, wc9, rfl, h9, bM⟩ := hres.to (Lib.hid rfl)
      clear hl h9
      replace bM := below_trans (below_new w23 (.cells #[.int .u8 1, .int .u8 2, .int .u8 3] 5)) bM
      replace bL := below_trans bL bM
      clear y00 y01 y02 f00 f01 f02
      clear h7 h8 b0 g0 g1 g2 g3 g4 g5 g6 hj3
      go_wp2
      go_roundw
      case rel => exact ⟨j + 1, by omega, by go_num, below_trans bN bL⟩
      case measure => simp [intOf]; omega
    · have hj3 : decide ((j : Int) < 3) = false := decide_eq_false (by omega)
      clear bN bL
      obtain ⟨y00, y01, y02, f00, f01, f02⟩ := Box3.of g0
      obtain ⟨y10, y11, y12, f10, f11, f12⟩ := Box3.of g1
      go_wp2_with fail
      refine same_ts h0 h1 (Lib.hid rfl) ?_
      intro w22 bN
      clear y00 y01 y02 f00 f01 f02
      clear y10 y11 y12 f10 f11 f12
      replace g0 := block_keep g0 bN
      replace g1 := block_keep g1 bN
      replace g2 := block_keep g2 bN
      replace g3 := block_keep g3 bN
      replace g4 := block_keep g4 bN
      replace g5 := block_keep g5 bN
      replace g6 := block_keep g6 bN
      replace h0 := h0.keep bN
      replace h1 := h1.keep bN
      replace h2 := h2.keep bN
      replace h3 := h3.keep bN
      replace h4 := h4.keep bN
      replace h5 := h5.keep bN
      replace h6 := h6.keep bN
      replace tb := tb.keep bN
      replace b0 := below_trans b0 bN
      clear bN
      obtain ⟨y00, y01, y02, f00, f01, f02⟩ := Box3.of g2
      obtain ⟨y10, y11, y12, f10, f11, f12⟩ := Box3.of g6
      go_wp2_with fail
      refine same_ts h2 h6 (Lib.hid rfl) ?_
      intro w23 bN
      clear y00 y01 y02 f00 f01 f02
      clear y10 y11 y12 f10 f11 f12
      replace g0 := block_keep g0 bN
      replace g1 := block_keep g1 bN
      replace g2 := block_keep g2 bN
      replace g3 := block_keep g3 bN
      replace g4 := block_keep g4 bN
      replace g5 := block_keep g5 bN
      replace g6 := block_keep g6 bN
      replace h0 := h0.keep bN
      replace h1 := h1.keep bN
      replace h2 := h2.keep bN
      replace h3 := h3.keep bN
      replace h4 := h4.keep bN
      replace h5 := h5.keep bN
      replace h6 := h6.keep bN
      replace tb := tb.keep bN
      replace b0 := below_trans b0 bN
      clear bN
      go_upto_region 18 with fail
      clear h0 h1 h6 g0 g1 g6 tb
      by_cases he : e = 0
      · have ea : (e != 0) = false := by simp [he]
        have HFA := Lib.hid (HFa.out he)
        clear he
        by_cases hf : f = 0
        · have eb : (f != 0) = false := by simp [hf]
          have HFB := Lib.hid (HFb.out hf)
          clear hf
          obtain ⟨y00, y01, y02, f00, f01, f02⟩ := Box3.of g2
          go_wp2_with fail
          refine (rformed_eq h2 _ HFA.out).mono ?_
          rintro e9 w24 ⟨rfl, bN⟩
          clear y00 y01 y02 f00 f01 f02
          replace g2 := block_keep g2 bN
          replace g3 := block_keep g3 bN
          replace g4 := block_keep g4 bN
          replace g5 := block_keep g5 bN
          replace h2 := h2.keep bN
          replace h3 := h3.keep bN
          replace h4 := h4.keep bN
          replace h5 := h5.keep bN
          replace b0 := below_trans b0 bN
          clear bN
          obtain ⟨y00, y01, y02, f00, f01, f02⟩ := Box3.of g3
          go_wp2_with fail
          refine (rformed_eq h3 _ HFB.out).mono ?_
          rintro e9 w25 ⟨rfl, bN⟩
          clear y00 y01 y02 f00 f01 f02
          replace g2 := block_keep g2 bN
          replace g3 := block_keep g3 bN
          replace g4 := block_keep g4 bN
          replace g5 := block_keep g5 bN
          replace h2 := h2.keep bN
          replace h3 := h3.keep bN
          replace h4 := h4.keep bN
          replace h5 := h5.keep bN
          replace b0 := below_trans b0 bN
          clear bN
          obtain ⟨y00, y01, y02, f00, f01, f02⟩ := Box3.of g4
          go_wp2_with fail
          refine (rformed_eq h4 _ HFc.out).mono ?_
          rintro e9 w26 ⟨rfl, bN⟩
          clear y00 y01 y02 f00 f01 f02
          replace g2 := block_keep g2 bN
          replace g3 := block_keep g3 bN
          replace g4 := block_keep g4 bN
          replace g5 := block_keep g5 bN
          replace h2 := h2.keep bN
          replace h3 := h3.keep bN
          replace h4 := h4.keep bN
          replace h5 := h5.keep bN
          replace b0 := below_trans b0 bN
          clear bN
          obtain ⟨y00, y01, y02, f00, f01, f02⟩ := Box3.of g5
          go_wp2_with fail
          refine (rformed_eq h5 _ HFr.out).mono ?_
          rintro e9 w27 ⟨rfl, bN⟩
          clear y00 y01 y02 f00 f01 f02
          replace g2 := block_keep g2 bN
          replace g3 := block_keep g3 bN
          replace g4 := block_keep g4 bN
          replace g5 := block_keep g5 bN
          replace h2 := h2.keep bN
          replace h3 := h3.keep bN
          replace h4 := h4.keep bN
          replace h5 := h5.keep bN
          replace b0 := below_trans b0 bN
          clear bN
          go_wp2
          go_ret
          exact ⟨rfl, b0⟩
        · have eb : (f != 0) = true := by simpa using hf
          clear hf
          obtain ⟨y00, y01, y02, f00, f01, f02⟩ := Box3.of g2
          go_wp2_with fail
          refine (rformed_eq h2 _ HFA.out).mono ?_
          rintro e9 w24 ⟨rfl, bN⟩
          clear y00 y01 y02 f00 f01 f02
          replace g2 := block_keep g2 bN
          replace g3 := block_keep g3 bN
          replace g4 := block_keep g4 bN
          replace g5 := block_keep g5 bN
          replace h2 := h2.keep bN
          replace h3 := h3.keep bN
          replace h4 := h4.keep bN
          replace h5 := h5.keep bN
          replace b0 := below_trans b0 bN
          clear bN
          obtain ⟨y00, y01, y02, f00, f01, f02⟩ := Box3.of g4
          go_wp2_with fail
          refine (rformed_eq h4 _ HFc.out).mono ?_
          rintro e9 w25 ⟨rfl, bN⟩
          clear y00 y01 y02 f00 f01 f02
          replace g2 := block_keep g2 bN
          replace g3 := block_keep g3 bN
          replace g4 := block_keep g4 bN
          replace g5 := block_keep g5 bN
          replace h2 := h2.keep bN
          replace h3 := h3.keep bN
          replace h4 := h4.keep bN
          replace h5 := h5.keep bN
          replace b0 := below_trans b0 bN
          clear bN
          obtain ⟨y00, y01, y02, f00, f01, f02⟩ := Box3.of g5
          go_wp2_with fail
          refine (rformed_eq h5 _ HFr.out).mono ?_
          rintro e9 w26 ⟨rfl, bN⟩
          clear y00 y01 y02 f00 f01 f02
          replace g2 := block_keep g2 bN
          replace g3 := block_keep g3 bN
          replace g4 := block_keep g4 bN
          replace g5 := block_keep g5 bN
          replace h2 := h2.keep bN
          replace h3 := h3.keep bN
          replace h4 := h4.keep bN
          replace h5 := h5.keep bN
          replace b0 := below_trans b0 bN
          clear bN
          go_wp2
          go_ret
          exact ⟨rfl, b0⟩
      · have ea : (e != 0) = true := by simpa using he
        clear he
        by_cases hf : f = 0
        · have eb : (f != 0) = false := by simp [hf]
          have HFB := Lib.hid (HFb.out hf)
          clear hf
          obtain ⟨y00, y01, y02, f00, f01, f02⟩ := Box3.of g3
          go_wp2_with fail
          refine (rformed_eq h3 _ HFB.out).mono ?_
          rintro e9 w24 ⟨rfl, bN⟩
          clear y00 y01 y02 f00 f01 f02
          replace g2 := block_keep g2 bN
          replace g3 := block_keep g3 bN
          replace g4 := block_keep g4 bN
          replace g5 := block_keep g5 bN
          replace h2 := h2.keep bN
          replace h3 := h3.keep bN
          replace h4 := h4.keep bN
          replace h5 := h5.keep bN
          replace b0 := below_trans b0 bN
          clear bN
          obtain ⟨y00, y01, y02, f00, f01, f02⟩ := Box3.of g4
          go_wp2_with fail
          refine (rformed_eq h4 _ HFc.out).mono ?_
          rintro e9 w25 ⟨rfl, bN⟩
          clear y00 y01 y02 f00 f01 f02
          replace g2 := block_keep g2 bN
          replace g3 := block_keep g3 bN
          replace g4 := block_keep g4 bN
          replace g5 := block_keep g5 bN
          replace h2 := h2.keep bN
          replace h3 := h3.keep bN
          replace h4 := h4.keep bN
          replace h5 := h5.keep bN
          replace b0 := below_trans b0 bN
          clear bN
          obtain ⟨y00, y01, y02, f00, f01, f02⟩ := Box3.of g5
          go_wp2_with fail
          refine (rformed_eq h5 _ HFr.out).mono ?_
          rintro e9 w26 ⟨rfl, bN⟩
          clear y00 y01 y02 f00 f01 f02
          replace g2 := block_keep g2 bN
          replace g3 := block_keep g3 bN
          replace g4 := block_keep g4 bN
          replace g5 := block_keep g5 bN
          replace h2 := h2.keep bN
          replace h3 := h3.keep bN
          replace h4 := h4.keep bN
          replace h5 := h5.keep bN
          replace b0 := below_trans b0 bN
          clear bN
          go_wp2
          go_ret
          exact ⟨rfl, b0⟩
        · have eb : (f != 0) = true := by simpa using hf
          clear hf
          obtain ⟨y00, y01, y02, f00, f01, f02⟩ := Box3.of g4
          go_wp2_with fail
          refine (rformed_eq h4 _ HFc.out).mono ?_
          rintro e9 w24 ⟨rfl, bN⟩
          clear y00 y01 y02 f00 f01 f02
          replace g2 := block_keep g2 bN
          replace g3 := block_keep g3 bN
          replace g4 := block_keep g4 bN
          replace g5 := block_keep g5 bN
          replace h2 := h2.keep bN
          replace h3 := h3.keep bN
          replace h4 := h4.keep bN
          replace h5 := h5.keep bN
          replace b0 := below_trans b0 bN
          clear bN
          obtain ⟨y00, y01, y02, f00, f01, f02⟩ := Box3.of g5
          go_wp2_with fail
          refine (rformed_eq h5 _ HFr.out).mono ?_
          rintro e9 w25 ⟨rfl, bN⟩
          clear y00 y01 y02 f00 f01 f02
          replace g2 := block_keep g2 bN
          replace g3 := block_keep g3 bN
          replace g4 := block_keep g4 bN
          replace g5 := block_keep g5 bN
          replace h2 := h2.keep bN
          replace h3 := h3.keep bN
          replace h4 := h4.keep bN
          replace h5 := h5.keep bN
          replace b0 := below_trans b0 bN
          clear bN
          go_wp2
          go_ret
          exact ⟨rfl, b0⟩
end Go.Proofs.Ytcembocnkndlhaa
