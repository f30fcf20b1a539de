/- The law LogCrashes. -/
import Derived.Test.YtcembocnkndlhaaQNh
namespace Go.Proofs.Ytcembocnkndlhaa
open Go.RowKit
theorem wpList_append_rowsG {α : Type} {w : World} {ops : Array Oper} {rest : List Oper} {o : Oper} {a : Act} {Q : Exit → Act → World → Prop} (hgd : Region.wanted o (yielded ops a.tmps) = true) (enc : α → List Value) (s y : Operand) (t : TypeId)
    (ho : o.op = .call { callee := .builtin .append, args := #[s, y], argTypes := #[t, t] }) (base : Nat) (e : TypeId) (i : TypeInfo) (z : Value) (size bytes : Nat) (ht : Try.prog.underlying t = some (.slice e)) (hi : Try.prog.info? e = some i) (hz : i.zero = some z)
    (hsize : i.size = size) (hby : i.bytes = bytes) (hzs : z.cells.size = size) (hsz : 0 < size)
    (v : Value) (n : Nat) (xs : List Value) (hs : a.eval s = v) (hown : w.ownsRow base e size v n xs) (x : Value) (l : List α) (hx' : a.eval y = x) (hx : IsRows size enc w x l) (hl : ∀ y ∈ l, (enc y).length = size) (h1 : ∀ y ∈ l, ∀ u ∈ enc y, u.oneCell' = true)
    (h63 : n + l.length ≤ maxLen) (hbytes : (n + l.length) * bytes ≤ 140737488355328) (hbase : base ≤ w.heap.size)
    (h : ∀ v' w', w'.ownsRow base e size v' (n + l.length) (xs ++ l.flatMap enc) → w.grownBy w' v.ownBlock → (v'.ownBlock = v.ownBlock ∨ v'.ownBlock = some w.heap.size) → wpList Try.prog ops Q rest (a.put o.dst v') w') : wpList Try.prog ops Q (o :: rest) a w :=
  wpList_step fun _ hK => step_append_rows hgd enc s y t ho base e i z size bytes ht hi hz hsize hby hzs hsz v n xs hs hown x l hx' hx hl h1 h63 hbytes hbase fun v' w' h2 h3 h4 => hK _ _ (h v' w' h2 h3 h4)
theorem one_row (w : World) (v : Value) : IsRows 1 encV (w.alloc (.cells #[v] 26)) (.slice (some ⟨w.heap.size, 0, none⟩) 1 1) [v] := by
  refine ⟨_, _, rfl, .inr ⟨_, _, rfl, fun i x hx j u hu => ?_⟩, by simp, by simp, by omega⟩
  rcases i with _ | i
  · rcases j with _ | j
    · simp [encV] at hx hu
      subst hx hu
      exact cell_at (heap_alloc_new w _) rfl
    · simp [encV] at hu
  · simp at hx
theorem one_row1 (l : List UInt8) (a : Option Addr) (c : Nat) : ∀ y ∈ [Value.slice a l.length c], ∀ u ∈ encV y, u.oneCell' = true := by
  intro y hy u hu
  simp at hy
  subst hy
  simp [encV] at hu
  subst hu
  rfl
theorem open_ts {v : Value} {d : Dk} {k : Int} {b : Bool} {w : World} {Q : Ending → World → Prop} (h : IsDisk w v d) (hr : Hid (openD d k = b)) (q : ∀ w', Below w.heap.size w w' → Q (.returned (.bool b)) w') : Calls Try.prog 54 #[v, .int .i64 k] w Q :=
  (open_any v d k w h).mono fun e w' ⟨he, hB⟩ => by
    subst he
    rw [hr.out]
    exact q w' hB
theorem sync_none {d : Dk} (h : failure d 0 = 0) : ∃ ds : Dk, syncD d = (ds, 0) ∧ formed ds = true ∧ ds.down = false ∧ ds.writes = [] := by
  obtain ⟨hf, hd, -, -⟩ := failure_zero h
  exact ⟨_, syncD_ok hf hd, formed_sync hf, rfl, rfl⟩
set_option maxHeartbeats 16000000 in
set_option maxRecDepth 100000 in
theorem law15_any (v : Value) (d : Dk) (k : Int) (bv : Value) (l : List UInt8) (keep torn : Int) (w : World) (h0 : IsDisk w v d) (t0 : IsBytes w bv l) (ha : 0 ≤ keep ∧ keep < 256) (hb : 0 ≤ torn ∧ torn < 256) : Calls Try.prog 15 #[v, .int .i64 k, bv, .int .u8 keep, .int .u8 torn] w fun e w' => e = .returned (.bool true) ∧ Below w.heap.size w w' := by
  obtain ⟨bpa, bpc, rfl, -, mb⟩ := id t0
  obtain ⟨i0, hi, hz0, hz1, hz2⟩ := info_parts info26
  have TB := Lib.hid t0
  obtain ⟨pa0, pc0, wa0, wc0, rfl, -, -, m1, m2, m3⟩ := h0.shape
  obtain ⟨w1, hB0⟩ : ∃ x : World, x = w.alloc (.cells #[.slice pa0 d.pages.length pc0, .slice wa0 d.writes.length wc0, .bool d.down] 25) := ⟨_, rfl⟩
  have bp : _ ∧ _ := ⟨heap_alloc_new w (.cells #[.slice pa0 d.pages.length pc0, .slice wa0 d.writes.length wc0, .bool d.down] 25), below_new w (.cells #[.slice pa0 d.pages.length pc0, .slice wa0 d.writes.length wc0, .bool d.down] 25)⟩
  rw [← hB0] at bp
  obtain ⟨g0, bN⟩ := bp
  replace h0 := h0.keep bN
  replace t0 := t0.keep bN
  have b0 := bN
  clear bN
  go_enter Try.func15, Try.ntmps15
  go_wp2_with fail
  rw [← hB0]
  clear hB0
  refine (head36_any _).mono ?_
  intro e w2 hres
  obtain ⟨rfl, bN⟩ := hres
  replace g0 := block_keep g0 bN
  replace h0 := h0.keep bN
  replace t0 := t0.keep bN
  replace b0 := below_trans b0 bN
  clear bN
  obtain ⟨ds, hds⟩ : ∃ x, (syncD d).1 = x := ⟨_, rfl⟩
  obtain ⟨e8, he8⟩ : ∃ x, (syncD d).2 = x := ⟨_, rfl⟩
  have HS := Lib.hid (show syncD d = (ds, e8) from Prod.ext hds he8)
  clear hds he8
  go_upto_region 2 with fail
  obtain ⟨y00, y01, y02, f00, f01, f02⟩ := Box3.of g0
  go_wp2_with fail
  refine (Sync_off (fun i => i = w.heap.size) _ d _ h0 (by rintro _ rfl; exact block_lt g0)).mono ?_
  intro e w3 hres
  obtain ⟨pa1, pc1, wa1, wc1, rfl, o1, bN⟩ := off_to hres HS
  clear y00 y01 y02 f00 f01 f02
  replace g0 := block_keep g0 bN
  replace h0 := h0.keep bN
  replace t0 := t0.keep bN
  replace b0 := below_trans b0 bN
  clear bN
  obtain ⟨y00, y01, y02, f00, f01, f02⟩ := Box3.of g0
  go_upto_region 3 with fail
  clear y00 y01 y02 f00 f01 f02
  obtain ⟨w4, hS⟩ : ∃ x : World, x = (((w3.setCell ⟨w.heap.size, 0, none⟩ (.slice pa1 ds.pages.length pc1)).setCell ⟨w.heap.size, 1, none⟩ (.slice wa1 ds.writes.length wc1)).setCell ⟨w.heap.size, 2, none⟩ (.bool ds.down)) := ⟨_, rfl⟩
  rw [← hS]
  replace b0 := set3_below (β := w.heap.size) (.slice pa1 ds.pages.length pc1) (.slice wa1 ds.writes.length wc1) (.bool ds.down) b0 (Nat.le_refl _)
  rw [← hS] at b0
  replace o1 := OffDisk.set3 (β := w.heap.size) o1 rfl (.slice pa1 ds.pages.length pc1) (.slice wa1 ds.writes.length wc1) (.bool ds.down)
  rw [← hS] at o1
  replace g0 := Box3.set (x := (.slice pa1 ds.pages.length pc1)) (y := (.slice wa1 ds.writes.length wc1)) (z := (.bool ds.down)) g0
  rw [← hS] at g0
  have h1 := o1.is
  replace t0 := TB.out.keep b0
  clear hS o1 h0
  obtain ⟨y00, y01, y02, f00, f01, f02⟩ := Box3.of g0
  go_wp2_with fail
  refine (fits_any _ _ ds l _ h1 t0).mono ?_
  rintro e w5 ⟨rfl, bN⟩
  clear y00 y01 y02 f00 f01 f02
  replace g0 := block_keep g0 bN
  replace h1 := h1.keep bN
  replace t0 := t0.keep bN
  replace b0 := below_trans b0 bN
  clear bN
  cases hfi : fitsD ds l
  · go_wp2
    go_ret
    exact ⟨rfl, b0⟩
  obtain ⟨hwl, hpl, hl3⟩ := fits_parts hfi
  clear hfi
  have hl6 : l.length ≤ 1000000 := by omega
  by_cases hf : failure d 0 = 0
  case neg =>
    have hq : (e8 != 0) = true := by
      have := HS.out
      unfold syncD at this
      rw [if_pos hf] at this
      have e := congrArg Prod.snd this
      rw [bne_iff_ne]
      intro e'
      exact hf (e.trans e')
    go_wp2
    go_ret
    exact ⟨rfl, b0⟩
  obtain ⟨dx, hsy, hdf, hdd, hdw⟩ := sync_none hf
  have e1 := HS.out.symm.trans hsy
  simp only [Prod.mk.injEq] at e1
  obtain ⟨rfl, rfl⟩ := e1
  have HDW := Lib.hid hdw
  clear hsy hf HS hdf hdd hdw
  obtain ⟨pn, hpn⟩ : ∃ s : Int, (pagesN l.length : Int) = s := ⟨_, rfl⟩
  have hpl4 : pagesN l.length ≤ 6 := by unfold pagesN; omega
  have hpl1 := pagesN_pos l.length
  have HPN := Lib.hid hpn
  have hpn0 : 1 ≤ pn := by omega
  have hpn6 : pn ≤ 6 := by omega
  clear hpn hpl4 hpl1
  by_cases hf : failure ds k = 0
  case neg =>
    obtain ⟨e9, he9⟩ : ∃ e, failure ds k = e := ⟨_, rfl⟩
    obtain ⟨hA, hE, hR⟩ := app_err (r := l) hf
    have HA := Lib.hid hA
    have HE := Lib.hid hE
    have HR := Lib.hid hR
    rw [he9] at HA
    have hq : (e9 != 0) = true := by rw [bne_iff_ne, ← he9]; exact hf
    clear he9 hf hA hE hR
    obtain ⟨y00, y01, y02, f00, f01, f02⟩ := Box3.of g0
    go_wp2_with fail
    (with_reducible refine records_tu h1 HR ?_)
    intro u10 w6 p10 bN
    clear y00 y01 y02 f00 f01 f02
    replace g0 := block_keep g0 bN
    replace h1 := h1.keep bN
    replace t0 := t0.keep bN
    replace b0 := below_trans b0 bN
    clear bN
    obtain ⟨y00, y01, y02, f00, f01, f02⟩ := Box3.of g0
    go_wp2_with fail
    (with_reducible refine end_ts h1 HE ?_)
    intro w7 bN
    clear y00 y01 y02 f00 f01 f02
    replace g0 := block_keep g0 bN
    replace h1 := h1.keep bN
    replace t0 := t0.keep bN
    replace p10 := IsPages.keep p10 bN
    replace b0 := below_trans b0 bN
    clear bN
    obtain ⟨y00, y01, y02, f00, f01, f02⟩ := Box3.of g0
    go_wp2_with fail
    refine (Append_any _ ds k _ l _ h1 t0 (by omega) (by omega)).mono ?_
    intro e w8 hres
    obtain ⟨pa2, pc2, wa2, wc2, rfl, h2, bN⟩ := hres.to HA
    clear y00 y01 y02 f00 f01 f02
    replace g0 := block_keep g0 bN
    replace h1 := h1.keep bN
    replace t0 := t0.keep bN
    replace p10 := IsPages.keep p10 bN
    replace b0 := below_trans b0 bN
    clear bN
    obtain ⟨w9, hB2⟩ : ∃ x : World, x = w8.alloc (.cells #[(.slice pa2 noDisk.pages.length pc2), (.slice wa2 noDisk.writes.length wc2), (.bool noDisk.down)] 25) := ⟨_, rfl⟩
    have bp : _ ∧ _ := ⟨heap_alloc_new w8 (.cells #[(.slice pa2 noDisk.pages.length pc2), (.slice wa2 noDisk.writes.length wc2), (.bool noDisk.down)] 25), below_new w8 (.cells #[(.slice pa2 noDisk.pages.length pc2), (.slice wa2 noDisk.writes.length wc2), (.bool noDisk.down)] 25)⟩
    rw [← hB2] at bp
    obtain ⟨g2, bN⟩ := bp
    replace g0 := block_keep g0 bN
    replace h1 := h1.keep bN
    replace h2 := h2.keep bN
    replace t0 := t0.keep bN
    replace p10 := IsPages.keep p10 bN
    replace b0 := below_trans b0 bN
    clear bN
    go_upto_region 8 with fail
    rw [← hB2]
    clear hB2
    go_wp2
    go_ret
    exact ⟨rfl, b0⟩
  obtain ⟨L, hL⟩ : ∃ L, recordsD ds k = L := ⟨_, rfl⟩
  have HL := Lib.hid hL
  obtain ⟨ee, hee⟩ : ∃ ee : Int, (zOf ds k : Int) = ee := ⟨_, rfl⟩
  have HEE := Lib.hid (show endD ds k = ee by rw [endD_ok hf, hee])
  have hee0 : 0 ≤ ee := by omega
  have hee4 : ee ≤ 400 := by have := (log_chain hf).2.2.2; omega
  have hLs : L.length ≤ 400 := by rw [← hL]; exact chain_small hf
  by_cases hz : zOf ds k + pagesN l.length ≤ 400
  case neg =>
    have HA := Lib.hid (app_lim (r := l) hf hz)
    clear hf hL hee hz
    obtain ⟨y00, y01, y02, f00, f01, f02⟩ := Box3.of g0
    go_wp2_with fail
    (with_reducible refine records_tu h1 HL ?_)
    intro u10 w6 p10 bN
    clear y00 y01 y02 f00 f01 f02
    replace g0 := block_keep g0 bN
    replace h1 := h1.keep bN
    replace t0 := t0.keep bN
    replace b0 := below_trans b0 bN
    clear bN
    obtain ⟨y00, y01, y02, f00, f01, f02⟩ := Box3.of g0
    go_wp2_with fail
    (with_reducible refine end_ts h1 HEE ?_)
    intro w7 bN
    clear y00 y01 y02 f00 f01 f02
    replace g0 := block_keep g0 bN
    replace h1 := h1.keep bN
    replace t0 := t0.keep bN
    replace p10 := IsPages.keep p10 bN
    replace b0 := below_trans b0 bN
    clear bN
    obtain ⟨y00, y01, y02, f00, f01, f02⟩ := Box3.of g0
    go_wp2_with fail
    refine (Append_any _ ds k _ l _ h1 t0 (by omega) (by omega)).mono ?_
    intro e w8 hres
    obtain ⟨pa2, pc2, wa2, wc2, rfl, h2, bN⟩ := hres.to HA
    clear y00 y01 y02 f00 f01 f02
    replace g0 := block_keep g0 bN
    replace h1 := h1.keep bN
    replace t0 := t0.keep bN
    replace p10 := IsPages.keep p10 bN
    replace b0 := below_trans b0 bN
    clear bN
    obtain ⟨w9, hB2⟩ : ∃ x : World, x = w8.alloc (.cells #[(.slice pa2 noDisk.pages.length pc2), (.slice wa2 noDisk.writes.length wc2), (.bool noDisk.down)] 25) := ⟨_, rfl⟩
    have bp : _ ∧ _ := ⟨heap_alloc_new w8 (.cells #[(.slice pa2 noDisk.pages.length pc2), (.slice wa2 noDisk.writes.length wc2), (.bool noDisk.down)] 25), below_new w8 (.cells #[(.slice pa2 noDisk.pages.length pc2), (.slice wa2 noDisk.writes.length wc2), (.bool noDisk.down)] 25)⟩
    rw [← hB2] at bp
    obtain ⟨g2, bN⟩ := bp
    replace g0 := block_keep g0 bN
    replace h1 := h1.keep bN
    replace h2 := h2.keep bN
    replace t0 := t0.keep bN
    replace p10 := IsPages.keep p10 bN
    replace b0 := below_trans b0 bN
    clear bN
    go_upto_region 8 with fail
    rw [← hB2]
    clear hB2
    go_wp2
    go_ret
    exact ⟨rfl, b0⟩
  cases hop : openD ds (zOf ds k : Nat)
  case false =>
    obtain ⟨hA, -, -, -, -, -⟩ := app_ok (r := l) hf hl3 hz
    obtain ⟨x8, hx8⟩ : ∃ x, (⟨ds.pages, ds.writes ++ appendW (zOf ds k) l, false⟩ : Dk) = x := ⟨_, rfl⟩
    rw [hx8] at hA
    have HA := Lib.hid hA
    have HOP := Lib.hid (show openD ds ee = false by rw [← hee]; exact hop)
    clear hf hL hee hz hA hx8 hop
    obtain ⟨y00, y01, y02, f00, f01, f02⟩ := Box3.of g0
    go_wp2_with fail
    (with_reducible refine records_tu h1 HL ?_)
    intro u10 w6 p10 bN
    clear y00 y01 y02 f00 f01 f02
    replace g0 := block_keep g0 bN
    replace h1 := h1.keep bN
    replace t0 := t0.keep bN
    replace b0 := below_trans b0 bN
    clear bN
    obtain ⟨y00, y01, y02, f00, f01, f02⟩ := Box3.of g0
    go_wp2_with fail
    (with_reducible refine end_ts h1 HEE ?_)
    intro w7 bN
    clear y00 y01 y02 f00 f01 f02
    replace g0 := block_keep g0 bN
    replace h1 := h1.keep bN
    replace t0 := t0.keep bN
    replace p10 := IsPages.keep p10 bN
    replace b0 := below_trans b0 bN
    clear bN
    obtain ⟨y00, y01, y02, f00, f01, f02⟩ := Box3.of g0
    go_wp2_with fail
    refine (Append_any _ ds k _ l _ h1 t0 (by omega) (by omega)).mono ?_
    intro e w8 hres
    obtain ⟨pa2, pc2, wa2, wc2, rfl, h2, bN⟩ := hres.to HA
    clear y00 y01 y02 f00 f01 f02
    replace g0 := block_keep g0 bN
    replace h1 := h1.keep bN
    replace t0 := t0.keep bN
    replace p10 := IsPages.keep p10 bN
    replace b0 := below_trans b0 bN
    clear bN
    obtain ⟨w9, hB2⟩ : ∃ x : World, x = w8.alloc (.cells #[(.slice pa2 x8.pages.length pc2), (.slice wa2 x8.writes.length wc2), (.bool x8.down)] 25) := ⟨_, rfl⟩
    have bp : _ ∧ _ := ⟨heap_alloc_new w8 (.cells #[(.slice pa2 x8.pages.length pc2), (.slice wa2 x8.writes.length wc2), (.bool x8.down)] 25), below_new w8 (.cells #[(.slice pa2 x8.pages.length pc2), (.slice wa2 x8.writes.length wc2), (.bool x8.down)] 25)⟩
    rw [← hB2] at bp
    obtain ⟨g2, bN⟩ := bp
    replace g0 := block_keep g0 bN
    replace h1 := h1.keep bN
    replace h2 := h2.keep bN
    replace t0 := t0.keep bN
    replace p10 := IsPages.keep p10 bN
    replace b0 := below_trans b0 bN
    clear bN
    go_upto_region 8 with fail
    rw [← hB2]
    clear hB2
    obtain ⟨y00, y01, y02, f00, f01, f02⟩ := Box3.of g0
    go_wp2_with fail
    (with_reducible refine open_ts h1 HOP ?_)
    intro w10 bN
    clear y00 y01 y02 f00 f01 f02
    replace g0 := block_keep g0 bN
    replace g2 := block_keep g2 bN
    replace h1 := h1.keep bN
    replace h2 := h2.keep bN
    replace t0 := t0.keep bN
    replace p10 := IsPages.keep p10 bN
    replace b0 := below_trans b0 bN
    clear bN
    go_wp2
    go_ret
    exact ⟨rfl, b0⟩
  obtain ⟨wn, hwn⟩ : ∃ W : Nat, W = pagesN l.length + if zOf ds k + pagesN l.length < 400 then 1 else 0 := ⟨_, rfl⟩
  obtain ⟨wi, hwi⟩ : ∃ W : Int, (wn : Int) = W := ⟨_, rfl⟩
  have hwn7 : wi ≤ 7 := by have := HPN.out; split at hwn <;> omega
  have hwn1 : 1 ≤ wi := by have := HPN.out; split at hwn <;> omega
  obtain ⟨ki, hki⟩ : ∃ x : Int, keep % (wi + 1) = x := ⟨_, rfl⟩
  have hki0 : 0 ≤ ki := by rw [← hki]; exact Int.emod_nonneg _ (by omega)
  have hki1 : ki ≤ wi := by have := Int.emod_lt_of_pos keep (show (0 : Int) < wi + 1 by omega); omega
  obtain ⟨ti, hti⟩ : ∃ x : Int, torn % 65 = x := ⟨_, rfl⟩
  have hti0 : 0 ≤ ti := by omega
  have hti1 : ti ≤ 64 := by omega
  obtain ⟨kn, rfl⟩ := Int.eq_ofNat_of_zero_le hki0
  obtain ⟨tn, rfl⟩ := Int.eq_ofNat_of_zero_le hti0
  obtain ⟨x8, c8, c9, want, an, hA, hC, hT, hfc, hcw, hRc, hEc, hZc, hOc, hdis⟩ := crash_facts (kp := kn) (t := tn) hf HDW.out hl3 hz hop wn hwn (by omega) (by omega)
  have HOP := Lib.hid (show openD ds ee = true by rw [← hee]; exact hop)
  have HA := Lib.hid hA
  have HC := Lib.hid hC
  have HT := Lib.hid hT
  obtain ⟨ai, hai⟩ : ∃ x : Int, (an : Int) = x := ⟨_, rfl⟩
  rw [hai] at hEc hOc
  have HRC := Lib.hid hRc
  have HEC := Lib.hid hEc
  have HOC := Lib.hid hOc
  have HFC := Lib.hid hfc
  have HKI := Lib.hid hki
  have HTI := Lib.hid hti
  have hcwl : c9.writes.length ≤ 1000000 := by rw [hcw]; exact Nat.zero_le _
  have HDIS : Hid (((kn = wn ∨ kn + 1 = wn ∧ tn = 64) ∧ want = L ++ [l] ∧ ai = ee + pn) ∨ (¬ (kn = wn ∨ kn + 1 = wn ∧ tn = 64) ∧ want = L ∧ ai = ee)) := Lib.hid (by
    rcases hdis with ⟨a, b, c⟩ | ⟨a, b, c⟩
    · exact .inl ⟨a, by rw [b, hL], by rw [← hai, ← hee, ← HPN.out, c]; omega⟩
    · exact .inr ⟨a, by rw [b, hL], by rw [← hai, ← hee, c]⟩)
  have hws : want.length ≤ 401 := by rcases HDIS.out with ⟨-, b, -⟩ | ⟨-, b, -⟩ <;> rw [b] <;> first | (simp; omega) | omega
  have HNEXT : Hid ((appendD c9 k l = (noDisk, 2) ∧ ai = ee + pn) ∨ ∃ y, appendD c9 k l = (y, 0) ∧ recordsD y k = want ++ [l]) := Lib.hid (by
    by_cases hz2 : zOf c9 k + pagesN l.length ≤ 400
    · obtain ⟨q1, -, q2, -⟩ := app_ok (r := l) hfc hl3 hz2
      exact .inr ⟨_, q1, by rw [q2, hRc]⟩
    · refine .inl ⟨app_lim hfc hz2, ?_⟩
      rw [hZc] at hz2
      rcases hdis with ⟨a, b, c⟩ | ⟨a, b, c⟩
      · rw [← hai, ← hee, ← HPN.out, c]; omega
      · omega)
  have hwt : (ee + pn < 400) = (wi = pn + 1) := by have := HPN.out; rw [eq_iff_iff]; split at hwn <;> constructor <;> intro _ <;> omega
  have hwt2 : wi = pn ∨ wi = pn + 1 := by have := HPN.out; split at hwn <;> omega
  have HWI := Lib.hid hwi
  have HWT := Lib.hid hwt
  have HWT2 := Lib.hid hwt2
  clear hf hL hee hz hop hwn hwi hki hti hA hC hT hfc hcw hRc hEc hZc hOc hdis hai hwt hwt2
  obtain ⟨y00, y01, y02, f00, f01, f02⟩ := Box3.of g0
  go_wp2_with fail
  (with_reducible refine records_tu h1 HL ?_)
  intro u10 w6 p10 bN
  clear y00 y01 y02 f00 f01 f02
  replace g0 := block_keep g0 bN
  replace h1 := h1.keep bN
  replace t0 := t0.keep bN
  replace b0 := below_trans b0 bN
  clear bN
  obtain ⟨y00, y01, y02, f00, f01, f02⟩ := Box3.of g0
  go_wp2_with fail
  (with_reducible refine end_ts h1 HEE ?_)
  intro w7 bN
  clear y00 y01 y02 f00 f01 f02
  replace g0 := block_keep g0 bN
  replace h1 := h1.keep bN
  replace t0 := t0.keep bN
  replace p10 := IsPages.keep p10 bN
  replace b0 := below_trans b0 bN
  clear bN
  obtain ⟨y00, y01, y02, f00, f01, f02⟩ := Box3.of g0
  go_wp2_with fail
  refine (Append_any _ ds k _ l _ h1 t0 (by omega) (by omega)).mono ?_
  intro e w8 hres
  obtain ⟨pa2, pc2, wa2, wc2, rfl, h2, bN⟩ := hres.to HA
  clear y00 y01 y02 f00 f01 f02
  replace g0 := block_keep g0 bN
  replace h1 := h1.keep bN
  replace t0 := t0.keep bN
  replace p10 := IsPages.keep p10 bN
  replace b0 := below_trans b0 bN
  clear bN
  obtain ⟨w9, hB2⟩ : ∃ x : World, x = w8.alloc (.cells #[(.slice pa2 x8.pages.length pc2), (.slice wa2 x8.writes.length wc2), (.bool x8.down)] 25) := ⟨_, rfl⟩
  have bp : _ ∧ _ := ⟨heap_alloc_new w8 (.cells #[(.slice pa2 x8.pages.length pc2), (.slice wa2 x8.writes.length wc2), (.bool x8.down)] 25), below_new w8 (.cells #[(.slice pa2 x8.pages.length pc2), (.slice wa2 x8.writes.length wc2), (.bool x8.down)] 25)⟩
  rw [← hB2] at bp
  obtain ⟨g2, bN⟩ := bp
  replace g0 := block_keep g0 bN
  replace h1 := h1.keep bN
  replace h2 := h2.keep bN
  replace t0 := t0.keep bN
  replace p10 := IsPages.keep p10 bN
  replace b0 := below_trans b0 bN
  clear bN
  go_upto_region 8 with fail
  rw [← hB2]
  clear hB2
  obtain ⟨y00, y01, y02, f00, f01, f02⟩ := Box3.of g0
  go_wp2_with fail
  (with_reducible refine open_ts h1 HOP ?_)
  intro w10 bN
  clear y00 y01 y02 f00 f01 f02
  replace g0 := block_keep g0 bN
  replace g2 := block_keep g2 bN
  replace h1 := h1.keep bN
  replace h2 := h2.keep bN
  replace t0 := t0.keep bN
  replace p10 := IsPages.keep p10 bN
  replace b0 := below_trans b0 bN
  clear bN
  go_wp2_with fail
  (with_reducible refine pagesI_ts t0 hl6 HPN ?_)
  go_wp2_with fail
  (with_reducible refine pagesI_ts t0 hl6 HPN ?_)
  go_upto_if 69 with (fail)
  go_cut [17] from 69 to 71 (fun v17 wx => v17 = .int .i64 wi ∧ w10 = wx)
  case first =>
    by_cases hlt : ee + pn < 400
    · have hd : decide (ee + pn < 400) = true := decide_eq_true hlt
      have E := Lib.hid (show pn + 1 = wi from (HWT.out.mp hlt).symm)
      go_wp2
      go_meet
      case rel => exact ⟨by rw [E.out], rfl⟩
    · have hd : decide (ee + pn < 400) = false := decide_eq_false hlt
      have E := Lib.hid (show pn = wi by rcases HWT2.out with h | h; exact h.symm; exact absurd (HWT.out.mpr h) hlt)
      go_wp2
      go_meet
      case rel => exact ⟨by rw [E.out], rfl⟩
  case rest =>
    obtain ⟨rfl, hwc⟩ := hcut
    subst hwc
    have hwz : (wi + 1 = 0) = False := eq_false (by omega)
    go_upto_region 16 with fail
    rw [HKI.out, HTI.out]
    obtain ⟨y00, y01, y02, f00, f01, f02⟩ := Box3.of g2
    go_wp2_with fail
    refine (Crash_any _ x8 kn tn _ h2).mono ?_
    intro e w11 hres
    obtain ⟨pa3, pc3, wa3, wc3, rfl, h3, bN⟩ := hres.to HC
    clear y00 y01 y02 f00 f01 f02
    replace g0 := block_keep g0 bN
    replace g2 := block_keep g2 bN
    replace h1 := h1.keep bN
    replace h2 := h2.keep bN
    replace t0 := t0.keep bN
    replace p10 := IsPages.keep p10 bN
    replace b0 := below_trans b0 bN
    clear bN
    go_wp2_with fail
    refine (Restart_any _ c8 _ h3).mono ?_
    intro e w12 hres
    obtain ⟨pa4, pc4, wa4, wc4, rfl, h4, bN⟩ := hres.to HT
    replace g0 := block_keep g0 bN
    replace g2 := block_keep g2 bN
    replace h1 := h1.keep bN
    replace h2 := h2.keep bN
    replace h3 := h3.keep bN
    replace t0 := t0.keep bN
    replace p10 := IsPages.keep p10 bN
    replace b0 := below_trans b0 bN
    clear bN
    obtain ⟨w13, hB4⟩ : ∃ x : World, x = w12.alloc (.cells #[(.slice pa4 c9.pages.length pc4), (.slice wa4 c9.writes.length wc4), (.bool c9.down)] 25) := ⟨_, rfl⟩
    have bp : _ ∧ _ := ⟨heap_alloc_new w12 (.cells #[(.slice pa4 c9.pages.length pc4), (.slice wa4 c9.writes.length wc4), (.bool c9.down)] 25), below_new w12 (.cells #[(.slice pa4 c9.pages.length pc4), (.slice wa4 c9.writes.length wc4), (.bool c9.down)] 25)⟩
    rw [← hB4] at bp
    obtain ⟨g4, bN⟩ := bp
    replace g0 := block_keep g0 bN
    replace g2 := block_keep g2 bN
    replace h1 := h1.keep bN
    replace h2 := h2.keep bN
    replace h3 := h3.keep bN
    replace h4 := h4.keep bN
    replace t0 := t0.keep bN
    replace p10 := IsPages.keep p10 bN
    replace b0 := below_trans b0 bN
    clear bN
    go_upto_region 17 with fail
    rw [← hB4]
    clear hB4
    clear h2 h3
    obtain ⟨vs, hvr, hvl, hvb, hv1⟩ := pages_vals p10
    obtain ⟨ua, uc, rfl, -⟩ := id hvr
    have bE := below_new w13 (.cells #[] 26)
    have h00 : (w13.alloc (.cells #[] 26)).ownsRow w13.heap.size 26 1 (.slice (some ⟨w13.heap.size, 0, none⟩) 0 0) 0 [] := World.ownsRow_lit w13 #[] 0 (Nat.le_refl _) (by decide) rfl
    have hx := hvr.keep (keeps_below bE)
    have hsz : w13.heap.size ≤ (w13.alloc (.cells #[] 26)).heap.size := by simp
    have hof : ∀ q, Value.ownBlock (.slice (some ⟨w13.heap.size, 0, none⟩) 0 0) = some q → w13.heap.size ≤ q := by
      intro q hq
      obtain rfl : w13.heap.size = q := by simpa [Value.ownBlock] using hq
      exact Nat.le_refl _
    have hm1 : 0 + vs.length ≤ maxLen := by unfold maxLen; omega
    have hm2 : (0 + vs.length) * 24 ≤ 140737488355328 := by omega
    have hm3 : vs.length + 1 ≤ maxLen := by unfold maxLen; omega
    have hm4 : (vs.length + 1) * 24 ≤ 140737488355328 := by omega
    have HVL := Lib.hid hvl
    clear hvl
    obtain ⟨WH, hWH⟩ : ∃ b, decide (kn = wn ∨ kn + 1 = wn ∧ tn = 64) = b := ⟨_, rfl⟩
    have HWH := Lib.hid hWH
    clear hWH
    have hwn0 := Lib.hid (show (wn : Int) = wi from HWI.out)
    go_upto_region 19 with fail
    go_cut [99] from 86 to 98 (fun v99 wx => v99 = .bool WH ∧ w13 = wx)
    case first =>
      by_cases hk1 : kn = wn
      · have q1 : ((kn : Int) == wi) = true := by rw [hk1, hwn0.out]; simp
        have HV := Lib.hid (show WH = true by rw [← HWH.out]; exact decide_eq_true (.inl hk1))
        clear hk1
        go_wp2
        go_meet
        case rel => exact ⟨by rw [HV.out], rfl⟩
      have q1 : ((kn : Int) == wi) = false := by rw [beq_eq_false_iff_ne]; have := hwn0.out; omega
      by_cases hk2 : kn + 1 = wn
      · have q2 : ((kn : Int) == wi - 1) = true := by rw [beq_iff_eq]; have := hwn0.out; omega
        by_cases hk3 : tn = 64
        · have q3 : ((tn : Int) == 64) = true := by rw [hk3]; rfl
          have HV := Lib.hid (show WH = true by rw [← HWH.out]; exact decide_eq_true (.inr ⟨hk2, hk3⟩))
          clear hk1 hk2 hk3
          go_wp2
          go_meet
          case rel => exact ⟨by rw [HV.out], rfl⟩
        · have q3 : ((tn : Int) == 64) = false := by rw [beq_eq_false_iff_ne]; omega
          have HV := Lib.hid (show WH = false by rw [← HWH.out]; exact decide_eq_false (by omega))
          clear hk1 hk2 hk3
          go_wp2
          go_meet
          case rel => exact ⟨by rw [HV.out], rfl⟩
      · have q2 : ((kn : Int) == wi - 1) = false := by rw [beq_eq_false_iff_ne]; have := hwn0.out; omega
        have HV := Lib.hid (show WH = false by rw [← HWH.out]; exact decide_eq_false (by omega))
        clear hk1 hk2
        go_wp2
        go_meet
        case rel => exact ⟨by rw [HV.out], rfl⟩
    case rest =>
      obtain ⟨rfl, hwc⟩ := hcut
      subst hwc
      go_upto_if 99 with (fail)
      go_cut [21, 22] from 99 to 106 (fun v21 v22 wx => IsPages wx v21 want ∧ v22 = .int .i64 ai ∧ Below w13.heap.size w13 wx)
      case first =>
        cases WH
        case true =>
          obtain ⟨hw1, hw2⟩ : want = L ++ [l] ∧ ai = ee + pn := by rcases HDIS.out with ⟨-, a, b⟩ | ⟨a, -, -⟩; exact ⟨a, b⟩; exact absurd (of_decide_eq_true HWH.out) a
          have HW1 := Lib.hid hw1
          have HW2 := Lib.hid hw2
          clear hw1 hw2
          go_wp2_with (first
              | (at_builtin; refine wpList_append_rows rfl encV (.tmp 100) (.tmp 101) 22 rfl w13.heap.size 26 i0 (.slice none 0 0) 1 24 Try.underlying22 hi hz0 hz1 hz2 rfl (by decide) _ _ _ rfl h00 _ vs rfl hx (fun _ _ => rfl) hv1 hm1 hm2 hsz ?_; intro v50 w50 own50 grow50 at50; rw [Nat.zero_add, List.nil_append, flatV] at own50; have bb50 := bE.grown grow50 hsz hof; obtain ⟨a50, c50, rfl⟩ := own_form own50; have hs50 : ∀ o : Obj, w13.heap.size ≤ (w50.alloc o).heap.size := (fun o => by have := bb50.size; simp; omega))
              | (at_builtin; refine wpList_append_own _ rfl (.tmp 102) (.tmp 104) 22 rfl w13.heap.size 26 i0 (.slice none 0 0) 1 24 Try.underlying22 hi hz0 hz1 hz2 rfl (by decide) _ _ _ rfl (own50.alloc _) ⟨w50.heap.size, 0, none⟩ 1 1 [.slice bpa l.length bpc] rfl rfl (cell_one' _ _ _) (by intro u hu; obtain rfl := List.mem_singleton.1 hu; rfl) hm3 hm4 (hs50 _) ?_; intro v51 w51 own51 grow51 ne51))
          have bN : Below w13.heap.size w13 w51 := (bb50.trans ((below_new w50 (.cells #[.slice bpa l.length bpc] 26)).mono bb50.size)).grown grow51 (hs50 _) (own_from own50)
          obtain ⟨a51, c51, rfl⟩ := own_form own51
          have pM := pages_more hvb t0 bN HVL.out (by omega) own51
          go_meet
          case rel => exact ⟨by rw [HW1.out]; exact pM, by rw [HW2.out], bN⟩
        case false =>
          obtain ⟨hw1, hw2⟩ : want = L ∧ ai = ee := by rcases HDIS.out with ⟨a, -, -⟩ | ⟨-, a, b⟩; exact absurd a (of_decide_eq_false HWH.out); exact ⟨a, b⟩
          have HW1 := Lib.hid hw1
          have HW2 := Lib.hid hw2
          clear hw1 hw2
          go_wp2
          go_meet
          case rel => exact ⟨by rw [HW1.out]; exact p10, by rw [HW2.out], Below.refl _ _⟩
      case rest =>
        obtain ⟨pW, rfl, bN⟩ := hcut
        obtain ⟨w52, rfl⟩ : ∃ x : World, x = wc := ⟨_, rfl⟩
        clear p10 hvr hvb hv1 bE h00 hx hsz hof hm1 hm2 hm3 hm4 HVL HWH hwn0
        replace g0 := block_keep g0 bN
        replace g2 := block_keep g2 bN
        replace g4 := block_keep g4 bN
        replace h1 := h1.keep bN
        replace h4 := h4.keep bN
        replace t0 := t0.keep bN
        replace b0 := below_trans b0 bN
        clear bN
        have haa := bne_self_int ai
        go_upto_region 22 with fail
        obtain ⟨y00, y01, y02, f00, f01, f02⟩ := Box3.of g4
        go_wp2_with fail
        (with_reducible refine records_tu h4 HRC ?_)
        intro u60 w61 p60 bN
        clear y00 y01 y02 f00 f01 f02
        replace g0 := block_keep g0 bN
        replace g2 := block_keep g2 bN
        replace g4 := block_keep g4 bN
        replace h1 := h1.keep bN
        replace h4 := h4.keep bN
        replace t0 := t0.keep bN
        replace pW := IsPages.keep pW bN
        replace b0 := below_trans b0 bN
        clear bN
        go_wp2_with fail
        (with_reducible refine rsame_ts p60 pW (Lib.hid rfl) ?_)
        intro w62 bN
        replace g0 := block_keep g0 bN
        replace g2 := block_keep g2 bN
        replace g4 := block_keep g4 bN
        replace h1 := h1.keep bN
        replace h4 := h4.keep bN
        replace t0 := t0.keep bN
        replace pW := IsPages.keep pW bN
        replace b0 := below_trans b0 bN
        clear bN
        obtain ⟨y00, y01, y02, f00, f01, f02⟩ := Box3.of g4
        go_wp2_with fail
        (with_reducible refine end_ts h4 HEC ?_)
        intro w63 bN
        clear y00 y01 y02 f00 f01 f02
        replace g0 := block_keep g0 bN
        replace g2 := block_keep g2 bN
        replace g4 := block_keep g4 bN
        replace h1 := h1.keep bN
        replace h4 := h4.keep bN
        replace t0 := t0.keep bN
        replace pW := IsPages.keep pW bN
        replace b0 := below_trans b0 bN
        clear bN
        obtain ⟨y00, y01, y02, f00, f01, f02⟩ := Box3.of g4
        go_wp2_with fail
        (with_reducible refine open_ts h4 HOC ?_)
        intro w64 bN
        clear y00 y01 y02 f00 f01 f02
        replace g0 := block_keep g0 bN
        replace g2 := block_keep g2 bN
        replace g4 := block_keep g4 bN
        replace h1 := h1.keep bN
        replace h4 := h4.keep bN
        replace t0 := t0.keep bN
        replace pW := IsPages.keep pW bN
        replace b0 := below_trans b0 bN
        clear bN
        go_upto_region 24 with fail
        clear p60
        rcases HNEXT.out with ⟨hn1, hn2⟩ | ⟨y9, hn1, hn2⟩
        · have HN := Lib.hid hn1
          have q5 : (ai == ee + pn) = true := by rw [beq_iff_eq]; exact hn2
          clear hn1 hn2
          obtain ⟨y00, y01, y02, f00, f01, f02⟩ := Box3.of g4
          go_wp2_with fail
          refine (Append_any _ c9 k _ l _ h4 t0 (by omega) hcwl).mono ?_
          intro e w65 hres
          obtain ⟨pa5, pc5, wa5, wc5, rfl, h5, bN⟩ := hres.to HN
          clear y00 y01 y02 f00 f01 f02
          replace g0 := block_keep g0 bN
          replace g2 := block_keep g2 bN
          replace g4 := block_keep g4 bN
          replace h1 := h1.keep bN
          replace h4 := h4.keep bN
          replace t0 := t0.keep bN
          replace pW := IsPages.keep pW bN
          replace b0 := below_trans b0 bN
          clear bN
          obtain ⟨w66, hB5⟩ : ∃ x : World, x = w65.alloc (.cells #[(.slice pa5 noDisk.pages.length pc5), (.slice wa5 noDisk.writes.length wc5), (.bool noDisk.down)] 25) := ⟨_, rfl⟩
          have bp : _ ∧ _ := ⟨heap_alloc_new w65 (.cells #[(.slice pa5 noDisk.pages.length pc5), (.slice wa5 noDisk.writes.length wc5), (.bool noDisk.down)] 25), below_new w65 (.cells #[(.slice pa5 noDisk.pages.length pc5), (.slice wa5 noDisk.writes.length wc5), (.bool noDisk.down)] 25)⟩
          rw [← hB5] at bp
          obtain ⟨g5, bN⟩ := bp
          replace g0 := block_keep g0 bN
          replace g2 := block_keep g2 bN
          replace g4 := block_keep g4 bN
          replace h1 := h1.keep bN
          replace h4 := h4.keep bN
          replace h5 := h5.keep bN
          replace t0 := t0.keep bN
          replace pW := IsPages.keep pW bN
          replace b0 := below_trans b0 bN
          clear bN
          go_upto_region 25 with fail
          rw [← hB5]
          clear hB5
          go_wp2
          go_ret
          exact ⟨rfl, b0⟩
        · have HN := Lib.hid hn1
          have HRN := Lib.hid hn2
          clear hn1 hn2
          obtain ⟨y00, y01, y02, f00, f01, f02⟩ := Box3.of g4
          go_wp2_with fail
          refine (Append_any _ c9 k _ l _ h4 t0 (by omega) hcwl).mono ?_
          intro e w65 hres
          obtain ⟨pa5, pc5, wa5, wc5, rfl, h5, bN⟩ := hres.to HN
          clear y00 y01 y02 f00 f01 f02
          replace g0 := block_keep g0 bN
          replace g2 := block_keep g2 bN
          replace g4 := block_keep g4 bN
          replace h1 := h1.keep bN
          replace h4 := h4.keep bN
          replace t0 := t0.keep bN
          replace pW := IsPages.keep pW bN
          replace b0 := below_trans b0 bN
          clear bN
          obtain ⟨w66, hB5⟩ : ∃ x : World, x = w65.alloc (.cells #[(.slice pa5 y9.pages.length pc5), (.slice wa5 y9.writes.length wc5), (.bool y9.down)] 25) := ⟨_, rfl⟩
          have bp : _ ∧ _ := ⟨heap_alloc_new w65 (.cells #[(.slice pa5 y9.pages.length pc5), (.slice wa5 y9.writes.length wc5), (.bool y9.down)] 25), below_new w65 (.cells #[(.slice pa5 y9.pages.length pc5), (.slice wa5 y9.writes.length wc5), (.bool y9.down)] 25)⟩
          rw [← hB5] at bp
          obtain ⟨g5, bN⟩ := bp
          replace g0 := block_keep g0 bN
          replace g2 := block_keep g2 bN
          replace g4 := block_keep g4 bN
          replace h1 := h1.keep bN
          replace h4 := h4.keep bN
          replace h5 := h5.keep bN
          replace t0 := t0.keep bN
          replace pW := IsPages.keep pW bN
          replace b0 := below_trans b0 bN
          clear bN
          go_upto_region 25 with fail
          rw [← hB5]
          clear hB5
          go_upto_region 27 with fail
          obtain ⟨y00, y01, y02, f00, f01, f02⟩ := Box3.of g5
          go_wp2_with fail
          (with_reducible refine records_tu h5 HRN ?_)
          intro u61 w67 p61 bN
          clear y00 y01 y02 f00 f01 f02
          replace g0 := block_keep g0 bN
          replace g2 := block_keep g2 bN
          replace g4 := block_keep g4 bN
          replace g5 := block_keep g5 bN
          replace h1 := h1.keep bN
          replace h4 := h4.keep bN
          replace h5 := h5.keep bN
          replace t0 := t0.keep bN
          replace pW := IsPages.keep pW bN
          replace b0 := below_trans b0 bN
          clear bN
          obtain ⟨vs, hvr, hvl, hvb, hv1⟩ := pages_vals pW
          obtain ⟨ua, uc, rfl, -⟩ := id hvr
          have bE := below_new w67 (.cells #[] 26)
          have h00 : (w67.alloc (.cells #[] 26)).ownsRow w67.heap.size 26 1 (.slice (some ⟨w67.heap.size, 0, none⟩) 0 0) 0 [] := World.ownsRow_lit w67 #[] 0 (Nat.le_refl _) (by decide) rfl
          have hx := hvr.keep (keeps_below bE)
          have hsz : w67.heap.size ≤ (w67.alloc (.cells #[] 26)).heap.size := by simp
          have hof : ∀ q, Value.ownBlock (.slice (some ⟨w67.heap.size, 0, none⟩) 0 0) = some q → w67.heap.size ≤ q := by
            intro q hq
            obtain rfl : w67.heap.size = q := by simpa [Value.ownBlock] using hq
            exact Nat.le_refl _
          have hm1 : 0 + vs.length ≤ maxLen := by unfold maxLen; omega
          have hm2 : (0 + vs.length) * 24 ≤ 140737488355328 := by omega
          have hm3 : vs.length + 1 ≤ maxLen := by unfold maxLen; omega
          have hm4 : (vs.length + 1) * 24 ≤ 140737488355328 := by omega
          have HVL := Lib.hid hvl
          clear hvl
          go_wp2_with (first
                | (at_builtin; refine wpList_append_rowsG (by rfl) encV (.tmp 150) (.tmp 151) 22 rfl w67.heap.size 26 i0 (.slice none 0 0) 1 24 Try.underlying22 hi hz0 hz1 hz2 rfl (by decide) _ _ _ rfl h00 _ vs rfl hx (fun _ _ => rfl) hv1 hm1 hm2 hsz ?_; intro v50 w70 own50 grow50 at50; rw [Nat.zero_add, List.nil_append, flatV] at own50; have bb50 := bE.grown grow50 hsz hof; obtain ⟨a50, c50, rfl⟩ := own_form own50; have hs50 : ∀ o : Obj, w67.heap.size ≤ (w70.alloc o).heap.size := (fun o => by have := bb50.size; simp; omega))
                | (at_builtin; refine wpList_append_rowsG (by rfl) encV (.tmp 152) (.tmp 154) 22 rfl w67.heap.size 26 i0 (.slice none 0 0) 1 24 Try.underlying22 hi hz0 hz1 hz2 rfl (by decide) _ _ _ rfl (own50.alloc _) _ [.slice bpa l.length bpc] rfl (one_row _ _) (fun _ _ => rfl) (one_row1 l bpa bpc) hm3 hm4 (hs50 _) ?_; intro v51 w71 own51 grow51 ne51; replace own51 : w71.ownsRow w67.heap.size 26 1 v51 (vs.length + 1) (vs ++ [.slice bpa l.length bpc]) := own51)
                | (go_at_call 45; have bM : Below w67.heap.size w67 w71 := (bb50.trans ((below_new w70 (.cells #[.slice bpa l.length bpc] 26)).mono bb50.size)).grown grow51 (hs50 _) (own_from own50); obtain ⟨a51, c51, rfl⟩ := own_form own51; have pM := pages_more hvb t0 bM HVL.out (by omega) own51; (with_reducible refine rsame_ts (IsPages.keep p61 bM) pM (Lib.hid rfl) ?_); intro w72 bN))
          go_ret
          exact ⟨rfl, below_trans b0 (below_trans bM bN)⟩
end Go.Proofs.Ytcembocnkndlhaa
