/- The law LogAppends. -/
import Derived.Test.YtcembocnkndlhaaM14
namespace Go.Proofs.Ytcembocnkndlhaa
open Go.RowKit
theorem pages_own {w : World} {base : Nat} {v : Value} {vs : List Value} {L : List (List UInt8)} (h : w.ownsRow base 26 1 v vs.length vs) (hl : vs.length = L.length) (hm : L.length ≤ 1000) (hb : ∀ (i : Nat) (u : Value) (l : List UInt8), vs[i]? = some u → L[i]? = some l → IsBytes w u l) : IsPages w v L :=
  ⟨vs, IsRows.of_owns (base := base) (e := 26) (by rw [flatV]; exact h) (fun _ _ => rfl) (by omega), hl, hb⟩
theorem pages_vals {w : World} {v : Value} {L : List (List UInt8)} (h : IsPages w v L) : ∃ vs : List Value, IsRows 1 encV w v vs ∧ vs.length = L.length ∧ (∀ (i : Nat) (u : Value) (l : List UInt8), vs[i]? = some u → L[i]? = some l → IsBytes w u l) ∧ ∀ y ∈ vs, ∀ u ∈ encV y, u.oneCell' = true := by
  obtain ⟨vs, h1, h2, h3⟩ := h
  refine ⟨vs, h1, h2, h3, fun y hy u hu => ?_⟩
  obtain ⟨i, hi, rfl⟩ := List.getElem_of_mem hy
  have := h3 i vs[i] (L[i]'(by omega)) (List.getElem?_eq_getElem hi) (List.getElem?_eq_getElem (by omega))
  obtain ⟨a, c, e, -⟩ := this
  simp [encV] at hu
  rw [hu, e]
  rfl
/-- Two appends: the list as it was and one more. -/
theorem pages_more {w0 w2 : World} {base : Nat} {v : Value} {vs : List Value} {L : List (List UInt8)} {rv : Value} {r : List UInt8} (hb0 : ∀ (i : Nat) (u : Value) (l : List UInt8), vs[i]? = some u → L[i]? = some l → IsBytes w0 u l) (hr : IsBytes w0 rv r) (hB : Below w0.heap.size w0 w2) (hl : vs.length = L.length) (hm : L.length ≤ 500) (h : w2.ownsRow base 26 1 v (vs.length + 1) (vs ++ [rv])) : IsPages w2 v (L ++ [r]) := by
  refine pages_own (vs := vs ++ [rv]) (by rw [List.length_append]; exact h) (by simp [hl]) (by simp; omega) fun i u l hu hx => ?_
  rcases Nat.lt_or_ge i vs.length with hi | hi
  · rw [List.getElem?_append_left hi] at hu
    rw [List.getElem?_append_left (by omega)] at hx
    exact (hb0 i u l hu hx).keep hB
  · rw [List.getElem?_append_right hi] at hu
    rw [List.getElem?_append_right (by omega)] at hx
    have h0 : i - vs.length = 0 := by
      have := (List.getElem?_eq_some_iff.1 hu).1
      simp at this; omega
    rw [h0] at hu
    rw [← hl, h0] at hx
    simp at hu hx
    subst hu hx
    exact hr.keep hB
theorem after_same {P : Pages} {z i : Nat} {r : List UInt8} (h : i < z ∨ z + pagesN r.length < i) : after P z r i = P i := by
  unfold after
  rw [if_neg (by omega), if_neg (by omega)]
theorem chain_small {d : Dk} {k : Int} (h : failure d k = 0) : (recordsD d k).length ≤ 400 := by
  obtain ⟨c1, -, -, c4⟩ := log_chain h
  have := chain_short c1
  omega
set_option maxHeartbeats 16000000 in
set_option maxRecDepth 100000 in
theorem law10_any (v : Value) (d : Dk) (k : Int) (bv : Value) (l : List UInt8) (pg : Int) (w : World) (h0 : IsDisk w v d) (t0 : IsBytes w bv l) (ha : 0 ≤ pg ∧ pg < 65536) : Calls Try.prog 10 #[v, .int .i64 k, bv, .int .u16 pg] w fun e w' => e = .returned (.bool true) ∧ Below w.heap.size w w' := by
  obtain ⟨bpa, bpc, rfl, -, mb⟩ := id t0
  obtain ⟨i0, hi, hz0, hz1, hz2⟩ := info_parts info26
  obtain ⟨pa0, pc0, wa0, wc0, rfl, -, -, m1, m2, m3⟩ := h0.shape
  obtain ⟨w1, hB0⟩ : ∃ x : World, x = w.alloc (.cells #[.slice pa0 d.pages.length pc0, .slice wa0 d.writes.length wc0, .bool d.down] 25) := ⟨_, rfl⟩
  have bp : _ ∧ _ := ⟨heap_alloc_new w (.cells #[.slice pa0 d.pages.length pc0, .slice wa0 d.writes.length wc0, .bool d.down] 25), below_new w (.cells #[.slice pa0 d.pages.length pc0, .slice wa0 d.writes.length wc0, .bool d.down] 25)⟩
  rw [← hB0] at bp
  obtain ⟨g0, bN⟩ := bp
  replace h0 := h0.keep bN
  replace t0 := t0.keep bN
  have b0 := bN
  clear bN
  go_enter Try.func10, Try.ntmps10
  go_wp2_with fail
  rw [← hB0]
  clear hB0
  refine (head36_any _).mono ?_
  intro e w2 hres
  obtain ⟨rfl, bN⟩ := hres
  replace g0 := block_keep g0 bN
  replace h0 := h0.keep bN
  replace t0 := t0.keep bN
  replace b0 := below_trans b0 bN
  clear bN
  obtain ⟨y00, y01, y02, f00, f01, f02⟩ := Box3.of g0
  go_wp2_with fail
  refine (fits_any _ _ d l _ h0 t0).mono ?_
  rintro e w9 ⟨rfl, bN⟩
  clear y00 y01 y02 f00 f01 f02
  replace g0 := block_keep g0 bN
  replace h0 := h0.keep bN
  replace t0 := t0.keep bN
  replace b0 := below_trans b0 bN
  clear bN
  cases hfi : fitsD d l
  · go_wp2
    go_ret
    exact ⟨rfl, b0⟩
  obtain ⟨hwl, hpl, hl3⟩ := fits_parts hfi
  clear hfi
  have hl6 : l.length ≤ 1000000 := by omega
  obtain ⟨pn, hpn⟩ : ∃ s : Int, (pagesN l.length : Int) = s := ⟨_, rfl⟩
  have hpl4 : pagesN l.length ≤ 6 := by unfold pagesN; omega
  have HPN := Lib.hid hpn
  have hpn0 : 0 ≤ pn := by omega
  have hpn6 : pn ≤ 6 := by omega
  clear hpn hpl4
  by_cases hf : failure d k = 0
  case neg =>
    obtain ⟨e8, he8⟩ : ∃ e, failure d k = e := ⟨_, rfl⟩
    obtain ⟨hA, hE, hR⟩ := app_err (r := l) hf
    have HA := Lib.hid hA
    have HE := Lib.hid hE
    have HR := Lib.hid hR
    rw [he8] at HA
    have hq : (e8 != 0) = true := by rw [bne_iff_ne, ← he8]; exact hf
    clear he8 hf hA hE hR
    obtain ⟨y00, y01, y02, f00, f01, f02⟩ := Box3.of g0
    go_wp2_with fail
    (with_reducible refine records_tu h0 HR ?_)
    intro u10 w10 p10 bN
    clear y00 y01 y02 f00 f01 f02
    replace g0 := block_keep g0 bN
    replace h0 := h0.keep bN
    replace t0 := t0.keep bN
    replace b0 := below_trans b0 bN
    clear bN
    obtain ⟨y00, y01, y02, f00, f01, f02⟩ := Box3.of g0
    go_wp2_with fail
    (with_reducible refine end_ts h0 HE ?_)
    intro w11 bN
    clear y00 y01 y02 f00 f01 f02
    replace g0 := block_keep g0 bN
    replace h0 := h0.keep bN
    replace t0 := t0.keep bN
    replace p10 := IsPages.keep p10 bN
    replace b0 := below_trans b0 bN
    clear bN
    obtain ⟨y00, y01, y02, f00, f01, f02⟩ := Box3.of g0
    go_wp2_with fail
    refine (Append_any _ d k _ l _ h0 t0 (by omega) (by omega)).mono ?_
    intro e w12 hres
    obtain ⟨pa1, pc1, wa1, wc1, rfl, h1, bN⟩ := hres.to HA
    clear y00 y01 y02 f00 f01 f02
    replace g0 := block_keep g0 bN
    replace h0 := h0.keep bN
    replace t0 := t0.keep bN
    replace p10 := IsPages.keep p10 bN
    replace b0 := below_trans b0 bN
    clear bN
    obtain ⟨w13, hB1⟩ : ∃ x : World, x = w12.alloc (.cells #[(.slice pa1 noDisk.pages.length pc1), (.slice wa1 noDisk.writes.length wc1), (.bool noDisk.down)] 25) := ⟨_, rfl⟩
    have bp : _ ∧ _ := ⟨heap_alloc_new w12 (.cells #[(.slice pa1 noDisk.pages.length pc1), (.slice wa1 noDisk.writes.length wc1), (.bool noDisk.down)] 25), below_new w12 (.cells #[(.slice pa1 noDisk.pages.length pc1), (.slice wa1 noDisk.writes.length wc1), (.bool noDisk.down)] 25)⟩
    rw [← hB1] at bp
    obtain ⟨g1, bN⟩ := bp
    replace g0 := block_keep g0 bN
    replace h0 := h0.keep bN
    replace h1 := h1.keep bN
    replace t0 := t0.keep bN
    replace p10 := IsPages.keep p10 bN
    replace b0 := below_trans b0 bN
    clear bN
    go_upto_region 7 with fail
    rw [← hB1]
    clear hB1
    go_wp2
    go_ret
    exact ⟨rfl, b0⟩
  obtain ⟨L, hL⟩ : ∃ L, recordsD d k = L := ⟨_, rfl⟩
  have HL := Lib.hid hL
  obtain ⟨ee, hee⟩ : ∃ ee : Int, (zOf d k : Int) = ee := ⟨_, rfl⟩
  have HEE := Lib.hid (show endD d k = ee by rw [endD_ok hf, hee])
  have HZE := Lib.hid hee
  have hee0 : 0 ≤ ee := by omega
  have hee4 : ee ≤ 400 := by have := (log_chain hf).2.2.2; omega
  have hLs : L.length ≤ 400 := by rw [← hL]; exact chain_small hf
  by_cases hz : zOf d k + pagesN l.length ≤ 400
  case neg =>
    have HA := Lib.hid (app_lim (r := l) hf hz)
    have hq1 : decide (ee < 0) = false := decide_eq_false (by omega)
    have hq2 : decide ((400 : Int) < ee + pn) = true := decide_eq_true (by have := HPN.out; omega)
    clear hf hL hee hz
    obtain ⟨y00, y01, y02, f00, f01, f02⟩ := Box3.of g0
    go_wp2_with fail
    (with_reducible refine records_tu h0 HL ?_)
    intro u10 w10 p10 bN
    clear y00 y01 y02 f00 f01 f02
    replace g0 := block_keep g0 bN
    replace h0 := h0.keep bN
    replace t0 := t0.keep bN
    replace b0 := below_trans b0 bN
    clear bN
    obtain ⟨y00, y01, y02, f00, f01, f02⟩ := Box3.of g0
    go_wp2_with fail
    (with_reducible refine end_ts h0 HEE ?_)
    intro w11 bN
    clear y00 y01 y02 f00 f01 f02
    replace g0 := block_keep g0 bN
    replace h0 := h0.keep bN
    replace t0 := t0.keep bN
    replace p10 := IsPages.keep p10 bN
    replace b0 := below_trans b0 bN
    clear bN
    obtain ⟨y00, y01, y02, f00, f01, f02⟩ := Box3.of g0
    go_wp2_with fail
    refine (Append_any _ d k _ l _ h0 t0 (by omega) (by omega)).mono ?_
    intro e w12 hres
    obtain ⟨pa1, pc1, wa1, wc1, rfl, h1, bN⟩ := hres.to HA
    clear y00 y01 y02 f00 f01 f02
    replace g0 := block_keep g0 bN
    replace h0 := h0.keep bN
    replace t0 := t0.keep bN
    replace p10 := IsPages.keep p10 bN
    replace b0 := below_trans b0 bN
    clear bN
    obtain ⟨w13, hB1⟩ : ∃ x : World, x = w12.alloc (.cells #[(.slice pa1 noDisk.pages.length pc1), (.slice wa1 noDisk.writes.length wc1), (.bool noDisk.down)] 25) := ⟨_, rfl⟩
    have bp : _ ∧ _ := ⟨heap_alloc_new w12 (.cells #[(.slice pa1 noDisk.pages.length pc1), (.slice wa1 noDisk.writes.length wc1), (.bool noDisk.down)] 25), below_new w12 (.cells #[(.slice pa1 noDisk.pages.length pc1), (.slice wa1 noDisk.writes.length wc1), (.bool noDisk.down)] 25)⟩
    rw [← hB1] at bp
    obtain ⟨g1, bN⟩ := bp
    replace g0 := block_keep g0 bN
    replace h0 := h0.keep bN
    replace h1 := h1.keep bN
    replace t0 := t0.keep bN
    replace p10 := IsPages.keep p10 bN
    replace b0 := below_trans b0 bN
    clear bN
    go_upto_region 7 with fail
    rw [← hB1]
    clear hB1
    go_wp2_with fail
    (with_reducible refine pagesI_ts t0 hl6 HPN ?_)
    go_wp2
    go_ret
    exact ⟨rfl, b0⟩
  obtain ⟨hA, hfy, hRy, hZy, hEy, hPy⟩ := app_ok (r := l) hf hl3 hz
  obtain ⟨y8, hy8⟩ : ∃ y, (⟨d.pages, d.writes ++ appendW (zOf d k) l, false⟩ : Dk) = y := ⟨_, rfl⟩
  have hdy : y8.down = false := by rw [← hy8]
  rw [hy8] at hA hRy hEy hPy hfy
  rw [hL] at hRy
  have HA := Lib.hid hA
  have HRY := Lib.hid hRy
  have HEY := Lib.hid (show endD y8 k = ee + pn by rw [hEy, ← hee, ← HPN.out]; omega)
  obtain ⟨kk, hkk⟩ : ∃ kk : Int, kk = pg % 400 := ⟨_, rfl⟩
  have hkk0 : 0 ≤ kk := by omega
  have hkk1 : kk < 400 := by omega
  have HKK := Lib.hid hkk
  obtain ⟨hfm, hdn, -, -⟩ := failure_zero hf
  have HRa := Lib.hid (readD_ok hfm hdn hkk0 hkk1)
  have HRb := Lib.hid (readD_ok hfy hdy hkk0 hkk1)
  have HSB := Lib.hid (show ¬ (ee ≤ kk ∧ kk ≤ ee + pn) → look d kk = look y8 kk from fun hn => by
    have e1 := congrFun hPy kk.toNat
    rw [after_same (by have := HPN.out; omega)] at e1
    unfold pagesOf at e1
    rw [show ((kk.toNat : Nat) : Int) = kk by omega] at e1
    exact e1.symm)
  obtain ⟨xa, hxa⟩ : ∃ x, look d kk = x := ⟨_, rfl⟩
  obtain ⟨xb, hxb⟩ : ∃ x, look y8 kk = x := ⟨_, rfl⟩
  rw [hxa] at HRa HSB
  rw [hxb] at HRb HSB
  clear hf hL hee hz hA hfy hRy hZy hEy hPy hy8 hdy hkk hfm hdn hxa hxb
  obtain ⟨y00, y01, y02, f00, f01, f02⟩ := Box3.of g0
  go_wp2_with fail
  (with_reducible refine records_tu h0 HL ?_)
  intro u10 w10 p10 bN
  clear y00 y01 y02 f00 f01 f02
  replace g0 := block_keep g0 bN
  replace h0 := h0.keep bN
  replace t0 := t0.keep bN
  replace b0 := below_trans b0 bN
  clear bN
  obtain ⟨y00, y01, y02, f00, f01, f02⟩ := Box3.of g0
  go_wp2_with fail
  (with_reducible refine end_ts h0 HEE ?_)
  intro w11 bN
  clear y00 y01 y02 f00 f01 f02
  replace g0 := block_keep g0 bN
  replace h0 := h0.keep bN
  replace t0 := t0.keep bN
  replace p10 := IsPages.keep p10 bN
  replace b0 := below_trans b0 bN
  clear bN
  obtain ⟨y00, y01, y02, f00, f01, f02⟩ := Box3.of g0
  go_wp2_with fail
  refine (Append_any _ d k _ l _ h0 t0 (by omega) (by omega)).mono ?_
  intro e w12 hres
  obtain ⟨pa1, pc1, wa1, wc1, rfl, h1, bN⟩ := hres.to HA
  clear y00 y01 y02 f00 f01 f02
  replace g0 := block_keep g0 bN
  replace h0 := h0.keep bN
  replace t0 := t0.keep bN
  replace p10 := IsPages.keep p10 bN
  replace b0 := below_trans b0 bN
  clear bN
  obtain ⟨w13, hB1⟩ : ∃ x : World, x = w12.alloc (.cells #[(.slice pa1 y8.pages.length pc1), (.slice wa1 y8.writes.length wc1), (.bool y8.down)] 25) := ⟨_, rfl⟩
  have bp : _ ∧ _ := ⟨heap_alloc_new w12 (.cells #[(.slice pa1 y8.pages.length pc1), (.slice wa1 y8.writes.length wc1), (.bool y8.down)] 25), below_new w12 (.cells #[(.slice pa1 y8.pages.length pc1), (.slice wa1 y8.writes.length wc1), (.bool y8.down)] 25)⟩
  rw [← hB1] at bp
  obtain ⟨g1, bN⟩ := bp
  replace g0 := block_keep g0 bN
  replace h0 := h0.keep bN
  replace h1 := h1.keep bN
  replace t0 := t0.keep bN
  replace p10 := IsPages.keep p10 bN
  replace b0 := below_trans b0 bN
  clear bN
  go_upto_region 7 with fail
  rw [← hB1]
  clear hB1
  go_upto_region 10 with fail
  rw [← HKK.out]
  obtain ⟨y00, y01, y02, f00, f01, f02⟩ := Box3.of g0
  go_wp2_with fail
  refine (Read_any _ d kk _ h0).mono ?_
  intro e w14 hres
  obtain ⟨pa3, pc3, rfl, t3, bN⟩ := hres.to HRa
  clear y00 y01 y02 f00 f01 f02
  replace g0 := block_keep g0 bN
  replace g1 := block_keep g1 bN
  replace h0 := h0.keep bN
  replace h1 := h1.keep bN
  replace t0 := t0.keep bN
  replace p10 := IsPages.keep p10 bN
  replace b0 := below_trans b0 bN
  clear bN
  obtain ⟨y00, y01, y02, f00, f01, f02⟩ := Box3.of g1
  go_wp2_with fail
  refine (Read_any _ y8 kk _ h1).mono ?_
  intro e w15 hres
  obtain ⟨pa4, pc4, rfl, t4, bN⟩ := hres.to HRb
  clear y00 y01 y02 f00 f01 f02
  replace g0 := block_keep g0 bN
  replace g1 := block_keep g1 bN
  replace h0 := h0.keep bN
  replace h1 := h1.keep bN
  replace t0 := t0.keep bN
  replace t3 := t3.keep bN
  replace p10 := IsPages.keep p10 bN
  replace b0 := below_trans b0 bN
  clear bN
  go_upto_region 12 with fail
  obtain ⟨vs, hvr, hvl, hvb, hv1⟩ := pages_vals p10
  obtain ⟨ua, uc, rfl, -⟩ := id hvr
  have bE := below_new w15 (.cells #[] 26)
  have h00 : (w15.alloc (.cells #[] 26)).ownsRow w15.heap.size 26 1 (.slice (some ⟨w15.heap.size, 0, none⟩) 0 0) 0 [] := World.ownsRow_lit w15 #[] 0 (Nat.le_refl _) (by decide) rfl
  have hx := hvr.keep (keeps_below bE)
  have hsz : w15.heap.size ≤ (w15.alloc (.cells #[] 26)).heap.size := by simp
  have hof : ∀ q, Value.ownBlock (.slice (some ⟨w15.heap.size, 0, none⟩) 0 0) = some q → w15.heap.size ≤ q := by
    intro q hq
    obtain rfl : w15.heap.size = q := by simpa [Value.ownBlock] using hq
    exact Nat.le_refl _
  have hm1 : 0 + vs.length ≤ maxLen := by unfold maxLen; omega
  have hm2 : (0 + vs.length) * 24 ≤ 140737488355328 := by omega
  have hm3 : vs.length + 1 ≤ maxLen := by unfold maxLen; omega
  have hm4 : (vs.length + 1) * 24 ≤ 140737488355328 := by omega
  have HVL := Lib.hid hvl
  clear hvl
  go_upto_region 13 with (first
      | (at_builtin; refine wpList_append_rows rfl encV (.tmp 68) (.tmp 69) 22 rfl w15.heap.size 26 i0 (.slice none 0 0) 1 24 Try.underlying22 hi hz0 hz1 hz2 rfl (by decide) _ _ _ rfl h00 _ vs rfl hx (fun _ _ => rfl) hv1 hm1 hm2 hsz ?_; intro v50 w50 own50 grow50 at50; rw [Nat.zero_add, List.nil_append, flatV] at own50; have bb50 := bE.grown grow50 hsz hof; obtain ⟨a50, c50, rfl⟩ := own_form own50; have hs50 : ∀ o : Obj, w15.heap.size ≤ (w50.alloc o).heap.size := (fun o => by have := bb50.size; simp; omega))
      | (at_builtin; refine wpList_append_own _ rfl (.tmp 70) (.tmp 72) 22 rfl w15.heap.size 26 i0 (.slice none 0 0) 1 24 Try.underlying22 hi hz0 hz1 hz2 rfl (by decide) _ _ _ rfl (own50.alloc _) ⟨w50.heap.size, 0, none⟩ 1 1 [.slice bpa l.length bpc] rfl rfl (cell_one' _ _ _) (by intro u hu; obtain rfl := List.mem_singleton.1 hu; rfl) hm3 hm4 (hs50 _) ?_; intro v51 w51 own51 grow51 ne51))
  have bN : Below w15.heap.size w15 w51 := (bb50.trans ((below_new w50 (.cells #[.slice bpa l.length bpc] 26)).mono bb50.size)).grown grow51 (hs50 _) (own_from own50)
  obtain ⟨a51, c51, rfl⟩ := own_form own51
  have pM := pages_more hvb t0 bN HVL.out (by omega) own51
  clear p10 hvr hvb hv1 bE h00 hx hsz hof hm1 hm2 hm3 hm4 own50 grow50 at50 bb50 hs50 own51 grow51 ne51
  replace g0 := block_keep g0 bN
  replace g1 := block_keep g1 bN
  replace h0 := h0.keep bN
  replace h1 := h1.keep bN
  replace t0 := t0.keep bN
  replace t3 := t3.keep bN
  replace t4 := t4.keep bN
  replace b0 := below_trans b0 bN
  clear bN
  have hsum := beq_self_i (ee + pn)
  by_cases hc1 : ee ≤ kk
  · have hd1 : decide (ee ≤ kk) = true := decide_eq_true hc1
    by_cases hc2 : kk ≤ ee + pn
    · have hd2 : decide (kk ≤ ee + pn) = true := decide_eq_true hc2
      obtain ⟨y00, y01, y02, f00, f01, f02⟩ := Box3.of g1
      go_wp2_with fail
      (with_reducible refine records_tu h1 HRY ?_)
      intro u60 w61 p60 bN
      clear y00 y01 y02 f00 f01 f02
      replace pM := IsPages.keep pM bN
      replace g0 := block_keep g0 bN
      replace g1 := block_keep g1 bN
      replace h0 := h0.keep bN
      replace h1 := h1.keep bN
      replace t0 := t0.keep bN
      replace t3 := t3.keep bN
      replace t4 := t4.keep bN
      replace b0 := below_trans b0 bN
      clear bN
      go_wp2_with fail
      (with_reducible refine rsame_ts p60 pM (Lib.hid rfl) ?_)
      intro w62 bN
      replace g0 := block_keep g0 bN
      replace g1 := block_keep g1 bN
      replace h0 := h0.keep bN
      replace h1 := h1.keep bN
      replace t0 := t0.keep bN
      replace t3 := t3.keep bN
      replace t4 := t4.keep bN
      replace b0 := below_trans b0 bN
      clear bN
      obtain ⟨y00, y01, y02, f00, f01, f02⟩ := Box3.of g1
      go_wp2_with fail
      (with_reducible refine end_ts h1 HEY ?_)
      intro w63 bN
      clear y00 y01 y02 f00 f01 f02
      replace g0 := block_keep g0 bN
      replace g1 := block_keep g1 bN
      replace h0 := h0.keep bN
      replace h1 := h1.keep bN
      replace t0 := t0.keep bN
      replace t3 := t3.keep bN
      replace t4 := t4.keep bN
      replace b0 := below_trans b0 bN
      clear bN
      go_wp2_with fail
      (with_reducible refine pagesI_ts t0 hl6 HPN ?_)
      go_wp2_with fail
      (with_reducible refine pagesI_ts t0 hl6 HPN ?_)
      go_wp2
      go_ret
      exact ⟨rfl, b0⟩
    · have hd2 : decide (kk ≤ ee + pn) = false := decide_eq_false hc2
      have HSAME := Lib.hid (HSB.out fun h => hc2 h.2)
      obtain ⟨y00, y01, y02, f00, f01, f02⟩ := Box3.of g1
      go_wp2_with fail
      (with_reducible refine records_tu h1 HRY ?_)
      intro u60 w61 p60 bN
      clear y00 y01 y02 f00 f01 f02
      replace pM := IsPages.keep pM bN
      replace g0 := block_keep g0 bN
      replace g1 := block_keep g1 bN
      replace h0 := h0.keep bN
      replace h1 := h1.keep bN
      replace t0 := t0.keep bN
      replace t3 := t3.keep bN
      replace t4 := t4.keep bN
      replace b0 := below_trans b0 bN
      clear bN
      go_wp2_with fail
      (with_reducible refine rsame_ts p60 pM (Lib.hid rfl) ?_)
      intro w62 bN
      replace g0 := block_keep g0 bN
      replace g1 := block_keep g1 bN
      replace h0 := h0.keep bN
      replace h1 := h1.keep bN
      replace t0 := t0.keep bN
      replace t3 := t3.keep bN
      replace t4 := t4.keep bN
      replace b0 := below_trans b0 bN
      clear bN
      obtain ⟨y00, y01, y02, f00, f01, f02⟩ := Box3.of g1
      go_wp2_with fail
      (with_reducible refine end_ts h1 HEY ?_)
      intro w63 bN
      clear y00 y01 y02 f00 f01 f02
      replace g0 := block_keep g0 bN
      replace g1 := block_keep g1 bN
      replace h0 := h0.keep bN
      replace h1 := h1.keep bN
      replace t0 := t0.keep bN
      replace t3 := t3.keep bN
      replace t4 := t4.keep bN
      replace b0 := below_trans b0 bN
      clear bN
      go_wp2_with fail
      (with_reducible refine pagesI_ts t0 hl6 HPN ?_)
      go_wp2_with fail
      (with_reducible refine pagesI_ts t0 hl6 HPN ?_)
      go_wp2_with fail
      (with_reducible refine sameb_ts t3 t4 HSAME ?_)
      intro w64 bN
      replace g0 := block_keep g0 bN
      replace g1 := block_keep g1 bN
      replace h0 := h0.keep bN
      replace h1 := h1.keep bN
      replace t0 := t0.keep bN
      replace t3 := t3.keep bN
      replace t4 := t4.keep bN
      replace b0 := below_trans b0 bN
      clear bN
      go_wp2
      go_ret
      exact ⟨rfl, b0⟩
  · have hd1 : decide (ee ≤ kk) = false := decide_eq_false hc1
    have HSAME := Lib.hid (HSB.out fun h => hc1 h.1)
    obtain ⟨y00, y01, y02, f00, f01, f02⟩ := Box3.of g1
    go_wp2_with fail
    (with_reducible refine records_tu h1 HRY ?_)
    intro u60 w61 p60 bN
    clear y00 y01 y02 f00 f01 f02
    replace pM := IsPages.keep pM bN
    replace g0 := block_keep g0 bN
    replace g1 := block_keep g1 bN
    replace h0 := h0.keep bN
    replace h1 := h1.keep bN
    replace t0 := t0.keep bN
    replace t3 := t3.keep bN
    replace t4 := t4.keep bN
    replace b0 := below_trans b0 bN
    clear bN
    go_wp2_with fail
    (with_reducible refine rsame_ts p60 pM (Lib.hid rfl) ?_)
    intro w62 bN
    replace g0 := block_keep g0 bN
    replace g1 := block_keep g1 bN
    replace h0 := h0.keep bN
    replace h1 := h1.keep bN
    replace t0 := t0.keep bN
    replace t3 := t3.keep bN
    replace t4 := t4.keep bN
    replace b0 := below_trans b0 bN
    clear bN
    obtain ⟨y00, y01, y02, f00, f01, f02⟩ := Box3.of g1
    go_wp2_with fail
    (with_reducible refine end_ts h1 HEY ?_)
    intro w63 bN
    clear y00 y01 y02 f00 f01 f02
    replace g0 := block_keep g0 bN
    replace g1 := block_keep g1 bN
    replace h0 := h0.keep bN
    replace h1 := h1.keep bN
    replace t0 := t0.keep bN
    replace t3 := t3.keep bN
    replace t4 := t4.keep bN
    replace b0 := below_trans b0 bN
    clear bN
    go_wp2_with fail
    (with_reducible refine pagesI_ts t0 hl6 HPN ?_)
    go_wp2_with fail
    (with_reducible refine sameb_ts t3 t4 HSAME ?_)
    intro w64 bN
    replace g0 := block_keep g0 bN
    replace g1 := block_keep g1 bN
    replace h0 := h0.keep bN
    replace h1 := h1.keep bN
    replace t0 := t0.keep bN
    replace t3 := t3.keep bN
    replace t4 := t4.keep bN
    replace b0 := below_trans b0 bN
    clear bN
    go_wp2
    go_ret
    exact ⟨rfl, b0⟩
end Go.Proofs.Ytcembocnkndlhaa
