/- The law LogClears. -/
import Derived.Test.YtcembocnkndlhaaQNg
namespace Go.Proofs.Ytcembocnkndlhaa
open Go.RowKit
theorem one_pages (w : World) (v : Value) (l : List UInt8) (h : IsBytes w v l) : IsPages (w.alloc (.cells #[v] 26)) (.slice (some ⟨w.heap.size, 0, none⟩) 1 1) [l] := by
  refine lit_pages w [v] [l] rfl (by simp) fun i u x hu hx => ?_
  rcases i with _ | i
  · simp at hu hx; subst hu hx; exact h
  · simp at hu
theorem bne_self_int (n : Int) : (n != n) = false := by simp
theorem beq_self_i (n : Int) : (n == n) = true := by simp
set_option maxHeartbeats 16000000 in
set_option maxRecDepth 100000 in
theorem law14_any (v : Value) (d : Dk) (k : Int) (bv : Value) (l : List UInt8) (w : World) (h0 : IsDisk w v d) (t0 : IsBytes w bv l) : Calls Try.prog 14 #[v, .int .i64 k, bv] w fun e w' => e = .returned (.bool true) ∧ Below w.heap.size w w' := by
  obtain ⟨bpa, bpc, rfl, -, mb⟩ := id t0
  obtain ⟨pa0, pc0, wa0, wc0, rfl, -, -, m1, m2, m3⟩ := h0.shape
  obtain ⟨w1, hB0⟩ : ∃ x : World, x = w.alloc (.cells #[.slice pa0 d.pages.length pc0, .slice wa0 d.writes.length wc0, .bool d.down] 25) := ⟨_, rfl⟩
  have bp : _ ∧ _ := ⟨heap_alloc_new w (.cells #[.slice pa0 d.pages.length pc0, .slice wa0 d.writes.length wc0, .bool d.down] 25), below_new w (.cells #[.slice pa0 d.pages.length pc0, .slice wa0 d.writes.length wc0, .bool d.down] 25)⟩
  rw [← hB0] at bp
  obtain ⟨g0, bN⟩ := bp
  replace h0 := h0.keep bN
  replace t0 := t0.keep bN
  have b0 := bN
  clear bN
  go_enter Try.func14, Try.ntmps14
  go_wp2_with fail
  rw [← hB0]
  clear hB0
  refine (head36_any _).mono ?_
  intro e w2 hres
  obtain ⟨rfl, bN⟩ := hres
  replace g0 := block_keep g0 bN
  replace h0 := h0.keep bN
  replace t0 := t0.keep bN
  replace b0 := below_trans b0 bN
  clear bN
  obtain ⟨y00, y01, y02, f00, f01, f02⟩ := Box3.of g0
  go_wp2_with fail
  refine (fits_any _ _ d l _ h0 t0).mono ?_
  rintro e w9 ⟨rfl, bN⟩
  clear y00 y01 y02 f00 f01 f02
  replace g0 := block_keep g0 bN
  replace h0 := h0.keep bN
  replace t0 := t0.keep bN
  replace b0 := below_trans b0 bN
  clear bN
  cases hfi : fitsD d l
  · go_wp2
    go_ret
    exact ⟨rfl, b0⟩
  obtain ⟨hwl, hpl, hl3⟩ := fits_parts hfi
  clear hfi
  have hl6 : l.length ≤ 1000000 := by omega
  go_upto_region 4 with fail
  by_cases hf : failure d k = 0
  case neg =>
    obtain ⟨e8, he8⟩ : ∃ e, failure d k = e := ⟨_, rfl⟩
    have HW := Lib.hid (clear_err hf)
    have HE := Lib.hid (app_err (r := l) hf).2.1
    rw [he8] at HW
    have hq : (e8 != 0) = true := by rw [bne_iff_ne, ← he8]; exact hf
    clear he8 hf
    obtain ⟨y00, y01, y02, f00, f01, f02⟩ := Box3.of g0
    go_wp2_with fail
    refine (Clear_any _ d k _ h0 (by omega)).mono ?_
    intro e w10 hres
    obtain ⟨pa1, pc1, wa1, wc1, rfl, h1, bN⟩ := hres.to HW
    clear y00 y01 y02 f00 f01 f02
    replace g0 := block_keep g0 bN
    replace h0 := h0.keep bN
    replace t0 := t0.keep bN
    replace b0 := below_trans b0 bN
    clear bN
    obtain ⟨w11, hB1⟩ : ∃ x : World, x = w10.alloc (.cells #[(.slice pa1 noDisk.pages.length pc1), (.slice wa1 noDisk.writes.length wc1), (.bool noDisk.down)] 25) := ⟨_, rfl⟩
    have bp : _ ∧ _ := ⟨heap_alloc_new w10 (.cells #[(.slice pa1 noDisk.pages.length pc1), (.slice wa1 noDisk.writes.length wc1), (.bool noDisk.down)] 25), below_new w10 (.cells #[(.slice pa1 noDisk.pages.length pc1), (.slice wa1 noDisk.writes.length wc1), (.bool noDisk.down)] 25)⟩
    rw [← hB1] at bp
    obtain ⟨g1, bN⟩ := bp
    replace g0 := block_keep g0 bN
    replace h0 := h0.keep bN
    replace h1 := h1.keep bN
    replace t0 := t0.keep bN
    replace b0 := below_trans b0 bN
    clear bN
    go_upto_region 5 with fail
    rw [← hB1]
    clear hB1
    obtain ⟨y00, y01, y02, f00, f01, f02⟩ := Box3.of g0
    go_wp2_with fail
    (with_reducible refine end_ts h0 HE ?_)
    intro w30 bN
    go_wp2
    go_ret
    exact ⟨rfl, below_trans b0 bN⟩
  obtain ⟨x8, hW, hfx, hRx, hEx, hZx, hxw⟩ := clear_ok hf
  have HW := Lib.hid hW
  have HRX := Lib.hid hRx
  have HEX := Lib.hid hEx
  have HZX := Lib.hid hZx
  have HFX := Lib.hid hfx
  obtain ⟨-, -, hk0, hk1⟩ := failure_zero hf
  have hkk := bne_self_int k
  obtain ⟨pn, hpn⟩ : ∃ s : Int, (pagesN l.length : Int) = s := ⟨_, rfl⟩
  have hpl4 : pagesN l.length ≤ 6 := by unfold pagesN; omega
  have HPN := Lib.hid hpn
  have hpn0 : 0 ≤ pn := by omega
  have hpn6 : pn ≤ 6 := by omega
  clear hf hW hRx hEx hZx hfx hpn hpl4
  obtain ⟨y00, y01, y02, f00, f01, f02⟩ := Box3.of g0
  go_wp2_with fail
  refine (Clear_any _ d k _ h0 (by omega)).mono ?_
  intro e w10 hres
  obtain ⟨pa1, pc1, wa1, wc1, rfl, h1, bN⟩ := hres.to HW
  clear y00 y01 y02 f00 f01 f02
  replace g0 := block_keep g0 bN
  replace h0 := h0.keep bN
  replace t0 := t0.keep bN
  replace b0 := below_trans b0 bN
  clear bN
  obtain ⟨w11, hB1⟩ : ∃ x : World, x = w10.alloc (.cells #[(.slice pa1 x8.pages.length pc1), (.slice wa1 x8.writes.length wc1), (.bool x8.down)] 25) := ⟨_, rfl⟩
  have bp : _ ∧ _ := ⟨heap_alloc_new w10 (.cells #[(.slice pa1 x8.pages.length pc1), (.slice wa1 x8.writes.length wc1), (.bool x8.down)] 25), below_new w10 (.cells #[(.slice pa1 x8.pages.length pc1), (.slice wa1 x8.writes.length wc1), (.bool x8.down)] 25)⟩
  rw [← hB1] at bp
  obtain ⟨g1, bN⟩ := bp
  replace g0 := block_keep g0 bN
  replace h0 := h0.keep bN
  replace h1 := h1.keep bN
  replace t0 := t0.keep bN
  replace b0 := below_trans b0 bN
  clear bN
  go_upto_region 5 with fail
  rw [← hB1]
  clear hB1
  go_upto_region 7 with fail
  obtain ⟨y00, y01, y02, f00, f01, f02⟩ := Box3.of g1
  go_wp2_with fail
  (with_reducible refine records_t0 h1 HRX ?_)
  intro ra rc w12 bN
  clear y00 y01 y02 f00 f01 f02
  replace g0 := block_keep g0 bN
  replace g1 := block_keep g1 bN
  replace h0 := h0.keep bN
  replace h1 := h1.keep bN
  replace t0 := t0.keep bN
  replace b0 := below_trans b0 bN
  clear bN
  obtain ⟨y00, y01, y02, f00, f01, f02⟩ := Box3.of g1
  go_wp2_with fail
  (with_reducible refine end_ts h1 HEX ?_)
  intro w13 bN
  clear y00 y01 y02 f00 f01 f02
  replace g0 := block_keep g0 bN
  replace g1 := block_keep g1 bN
  replace h0 := h0.keep bN
  replace h1 := h1.keep bN
  replace t0 := t0.keep bN
  replace b0 := below_trans b0 bN
  clear bN
  go_upto_region 9 with fail
  by_cases hz : k.toNat + pagesN l.length ≤ 400
  case neg =>
    have HA := Lib.hid (app_lim (r := l) HFX.out (by rw [HZX.out]; exact hz))
    have hq : decide ((400 : Int) < k + pn) = true := decide_eq_true (by have := HPN.out; omega)
    obtain ⟨y00, y01, y02, f00, f01, f02⟩ := Box3.of g1
    go_wp2_with fail
    refine (Append_any _ x8 k _ l _ h1 t0 (by omega) (by omega)).mono ?_
    intro e w14 hres
    obtain ⟨pa2, pc2, wa2, wc2, rfl, h2, bN⟩ := hres.to HA
    clear y00 y01 y02 f00 f01 f02
    replace g0 := block_keep g0 bN
    replace g1 := block_keep g1 bN
    replace h0 := h0.keep bN
    replace h1 := h1.keep bN
    replace t0 := t0.keep bN
    replace b0 := below_trans b0 bN
    clear bN
    obtain ⟨w15, hB2⟩ : ∃ x : World, x = w14.alloc (.cells #[(.slice pa2 noDisk.pages.length pc2), (.slice wa2 noDisk.writes.length wc2), (.bool noDisk.down)] 25) := ⟨_, rfl⟩
    have bp : _ ∧ _ := ⟨heap_alloc_new w14 (.cells #[(.slice pa2 noDisk.pages.length pc2), (.slice wa2 noDisk.writes.length wc2), (.bool noDisk.down)] 25), below_new w14 (.cells #[(.slice pa2 noDisk.pages.length pc2), (.slice wa2 noDisk.writes.length wc2), (.bool noDisk.down)] 25)⟩
    rw [← hB2] at bp
    obtain ⟨g2, bN⟩ := bp
    replace g0 := block_keep g0 bN
    replace g1 := block_keep g1 bN
    replace h0 := h0.keep bN
    replace h1 := h1.keep bN
    replace h2 := h2.keep bN
    replace t0 := t0.keep bN
    replace b0 := below_trans b0 bN
    clear bN
    go_upto_region 10 with fail
    rw [← hB2]
    clear hB2
    go_wp2_with fail
    (with_reducible refine pagesI_ts t0 hl6 HPN ?_)
    go_wp2
    go_ret
    exact ⟨rfl, b0⟩
  obtain ⟨hA, hfy, hRy, -, -, -⟩ := app_ok (r := l) HFX.out hl3 (by rw [HZX.out]; exact hz)
  obtain ⟨y8, hy8⟩ : ∃ y, (⟨x8.pages, x8.writes ++ appendW (zOf x8 k) l, false⟩ : Dk) = y := ⟨_, rfl⟩
  rw [hy8] at hA hRy
  rw [HRX.out, List.nil_append] at hRy
  have HA := Lib.hid hA
  have HRY := Lib.hid hRy
  clear hA hfy hRy hy8 hz
  obtain ⟨y00, y01, y02, f00, f01, f02⟩ := Box3.of g1
  go_wp2_with fail
  refine (Append_any _ x8 k _ l _ h1 t0 (by omega) (by omega)).mono ?_
  intro e w14 hres
  obtain ⟨pa2, pc2, wa2, wc2, rfl, h2, bN⟩ := hres.to HA
  clear y00 y01 y02 f00 f01 f02
  replace g0 := block_keep g0 bN
  replace g1 := block_keep g1 bN
  replace h0 := h0.keep bN
  replace h1 := h1.keep bN
  replace t0 := t0.keep bN
  replace b0 := below_trans b0 bN
  clear bN
  obtain ⟨w15, hB2⟩ : ∃ x : World, x = w14.alloc (.cells #[(.slice pa2 y8.pages.length pc2), (.slice wa2 y8.writes.length wc2), (.bool y8.down)] 25) := ⟨_, rfl⟩
  have bp : _ ∧ _ := ⟨heap_alloc_new w14 (.cells #[(.slice pa2 y8.pages.length pc2), (.slice wa2 y8.writes.length wc2), (.bool y8.down)] 25), below_new w14 (.cells #[(.slice pa2 y8.pages.length pc2), (.slice wa2 y8.writes.length wc2), (.bool y8.down)] 25)⟩
  rw [← hB2] at bp
  obtain ⟨g2, bN⟩ := bp
  replace g0 := block_keep g0 bN
  replace g1 := block_keep g1 bN
  replace h0 := h0.keep bN
  replace h1 := h1.keep bN
  replace h2 := h2.keep bN
  replace t0 := t0.keep bN
  replace b0 := below_trans b0 bN
  clear bN
  go_upto_region 10 with fail
  rw [← hB2]
  clear hB2
  go_upto_region 12 with fail
  obtain ⟨y00, y01, y02, f00, f01, f02⟩ := Box3.of g2
  go_wp2_with fail
  (with_reducible refine records_tu h2 HRY ?_)
  intro u9 w16 p9 bN
  clear y00 y01 y02 f00 f01 f02
  replace g0 := block_keep g0 bN
  replace g1 := block_keep g1 bN
  replace g2 := block_keep g2 bN
  replace h0 := h0.keep bN
  replace h1 := h1.keep bN
  replace h2 := h2.keep bN
  replace t0 := t0.keep bN
  replace b0 := below_trans b0 bN
  clear bN
  have pL := one_pages w16 _ l t0
  have bL := below_new w16 (.cells #[.slice bpa l.length bpc] 26)
  go_wp2_with fail
  (with_reducible refine rsame_ts (IsPages.keep p9 bL) pL (Lib.hid rfl) ?_)
  intro w40 bN
  go_wp2
  go_ret
  exact ⟨rfl, below_trans b0 (below_trans bL bN)⟩
end Go.Proofs.Ytcembocnkndlhaa
