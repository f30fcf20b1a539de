/- The walk of the law TrieCanonical. -/
import Derived.Test.YtdibijhaiaiifaaDoorJ31
import Derived.Test.YtdibijhaiaiifaaDoorJ30
namespace Go.Proofs.YtdibijhaiaiifaaDoor
open Go.RowKit
theorem Hold.offs' {w w' : World} {m : List RR} {v : Value} {out : List RR} {wr : World} {base : Nat} (H : Hold 2 44 encR RowOk noB wr base v out) (hr : ∀ r ∈ m, RowOk w r) (hb : Below w.heap.size w w') (hw : base = w.heap.size) : ∀ u ∈ m, Off RowOk w' (Ex v noB) u := fun u hu => by
  refine Off.old (w := w) (fun a b => rowOk_keep a b _) (hr u hu) hb fun k hk => ?_
  rcases hk with hk | hk
  · rw [← hw]; exact (H.1.lt k hk).1
  · exact hk.elim
set_option maxHeartbeats 8000000 in
set_option maxRecDepth 1000000 in
theorem law15_any (columns : Int) (va vb : Value) (xs ys : List RR) (w : World) (hT : Tab w) (ha : IsRel w va xs) (hb : IsRel w vb ys) : Calls Tryd.prog 15 #[.int .i64 columns, va, vb] w fun e w' => e = .returned (.bool true) ∧ Below w.heap.size w w' := by
  obtain ⟨pa, ca, rfl, -⟩ := ha.shape
  obtain ⟨pb, cb, rfl, -⟩ := hb.shape
  go_enter Tryd.func15, Tryd.ntmps15
  have B1 := Below.refl w.heap.size w
  go_wp2_with fail
  refine (thead_any _ hT).mono ?_
  rintro e w1 ⟨rfl, bN⟩
  replace hT := hT.keep bN
  replace ha := ha.keep bN
  replace hb := hb.keep bN
  replace B1 := below_trans B1 bN
  clear bN
  go_wp2_with fail
  refine (fewR_any _ xs _ ha).mono ?_
  rintro e w2 ⟨rfl, bN⟩
  replace hT := hT.keep bN
  replace ha := ha.keep bN
  replace hb := hb.keep bN
  replace B1 := below_trans B1 bN
  clear bN
  cases hf : fewR xs
  · clear hf
    go_wp2
    go_ret
    exact ⟨rfl, B1⟩
  have HX4 := Lib.hid (fewR_sml hf)
  have HX := Lib.hid ((fewR_sml hf).mono (m := 10000) (by decide))
  clear hf
  go_wp2_with fail
  refine (fewR_any _ ys _ hb).mono ?_
  rintro e w2 ⟨rfl, bN⟩
  replace hT := hT.keep bN
  replace ha := ha.keep bN
  replace hb := hb.keep bN
  replace B1 := below_trans B1 bN
  clear bN
  cases hf : fewR ys
  · clear hf
    go_wp2
    go_ret
    exact ⟨rfl, B1⟩
  have HY4 := Lib.hid (fewR_sml hf)
  have HY := Lib.hid ((fewR_sml hf).mono (m := 10000) (by decide))
  clear hf
  by_cases hc : 0 ≤ columns ∧ columns ≤ 4
  case neg =>
    by_cases hd1 : columns < 0
    · clear hc
      go_wp2
      go_ret
      exact ⟨rfl, B1⟩
    · have hd2 : 4 < columns := by omega
      clear hc
      go_wp2
      go_ret
      exact ⟨rfl, B1⟩
  obtain ⟨hc0, hc4⟩ := hc
  have hd1 : ¬ columns < 0 := by omega
  have hd2 : ¬ 4 < columns := by omega
  go_wp2_with fail
  refine (TBuild_any _ columns xs _ hT ha HX.out).mono ?_
  rintro e wx ⟨x, rfl, hx, HBX, bN⟩
  unfold trV
  replace hT := hT.keep bN
  replace ha := ha.keep bN
  replace hb := hb.keep bN
  replace B1 := below_trans B1 bN
  clear bN
  have CX := Cel.new wx 64 [x.vv, x.kv, x.wv]
  have bN := below_new wx (.cells #[x.vv, x.kv, x.wv] 64)
  go_upto_region 5 with fail
  obtain ⟨wb8, hw⟩ : ∃ zz, wx.alloc (.cells #[x.vv, x.kv, x.wv] 64) = zz := ⟨_, rfl⟩
  replace CX : Cel wb8 wx.heap.size 64 [x.vv, x.kv, x.wv] := by rw [← hw]; exact CX
  rw [hw] at bN
  try rw [hw]
  clear hw
  obtain ⟨b8, hb⟩ : ∃ g, wx.heap.size = g := ⟨_, rfl⟩
  rw [hb] at CX
  try rw [hb]
  clear hb
  replace hT := hT.keep bN
  replace ha := ha.keep bN
  replace hb := hb.keep bN
  replace hx := hx.keep bN
  replace B1 := below_trans B1 bN
  clear bN
  have cx0 := CX.at_ (j := 0) rfl
  have cx1 := CX.at_ (j := 1) rfl
  have cx2 := CX.at_ (j := 2) rfl
  go_wp2_with fail
  refine (TBuild_any _ columns ys _ hT hb HY.out).mono ?_
  rintro e wy ⟨y, rfl, hy, HBY, bN⟩
  unfold trV
  replace hT := hT.keep bN
  replace ha := ha.keep bN
  replace hb := hb.keep bN
  replace hx := hx.keep bN
  replace CX := CX.keep bN
  replace cx0 := CX.at_ (j := 0) rfl
  replace cx1 := CX.at_ (j := 1) rfl
  replace cx2 := CX.at_ (j := 2) rfl
  replace B1 := below_trans B1 bN
  clear bN
  have CY := Cel.new wy 64 [y.vv, y.kv, y.wv]
  have bN := below_new wy (.cells #[y.vv, y.kv, y.wv] 64)
  go_upto_region 6 with fail
  obtain ⟨wb9, hw⟩ : ∃ zz, wy.alloc (.cells #[y.vv, y.kv, y.wv] 64) = zz := ⟨_, rfl⟩
  replace CY : Cel wb9 wy.heap.size 64 [y.vv, y.kv, y.wv] := by rw [← hw]; exact CY
  rw [hw] at bN
  try rw [hw]
  clear hw
  obtain ⟨b9, hb⟩ : ∃ g, wy.heap.size = g := ⟨_, rfl⟩
  rw [hb] at CY
  try rw [hb]
  clear hb
  replace hT := hT.keep bN
  replace ha := ha.keep bN
  replace hb := hb.keep bN
  replace hx := hx.keep bN
  replace hy := hy.keep bN
  replace CX := CX.keep bN
  replace cx0 := CX.at_ (j := 0) rfl
  replace cx1 := CX.at_ (j := 1) rfl
  replace cx2 := CX.at_ (j := 2) rfl
  replace B1 := below_trans B1 bN
  clear bN
  have cy0 := CY.at_ (j := 0) rfl
  have cy1 := CY.at_ (j := 1) rfl
  have cy2 := CY.at_ (j := 2) rfl
  obtain ⟨-, -, -, hlx⟩ := built_facts HBX.out HX.out
  obtain ⟨-, -, -, hly⟩ := built_facts HBY.out HY.out
  have hrx : (rowsT columns x.tr).length ≤ 100000 := by
    obtain ⟨F, h1, -, -, h3⟩ := built_fit hc0 hc4 HBX.out
    rw [h3]; exact Nat.le_trans (fitF_len h1 HX.out) (by decide)
  have hry : (rowsT columns y.tr).length ≤ 100000 := by
    obtain ⟨F, h1, -, -, h3⟩ := built_fit hc0 hc4 HBY.out
    rw [h3]; exact Nat.le_trans (fitF_len h1 HY.out) (by decide)
  have hRX := fun W h1 h2 => TRows_any columns x W h1 h2 hlx hrx
  have hRY := fun W h1 h2 => TRows_any columns y W h1 h2 hly hry
  unfold trV at hRX hRY
  have HALL : ∀ W, Below wb9.heap.size wb9 W → (fun w' => w'.cell? ⟨b8, 0, none⟩ = some x.vv ∧ w'.cell? ⟨b8, 1, none⟩ = some x.kv ∧ w'.cell? ⟨b8, 2, none⟩ = some x.wv ∧ w'.cell? ⟨b9, 0, none⟩ = some y.vv ∧ w'.cell? ⟨b9, 1, none⟩ = some y.kv ∧ w'.cell? ⟨b9, 2, none⟩ = some y.wv) W := fun W hW => ⟨cell_keep hW cx0, cell_keep hW cx1, cell_keep hW cx2, cell_keep hW cy0, cell_keep hW cy1, cell_keep hW cy2⟩
  try simp only [List.append_eq, List.cons_append, List.nil_append]
  refine wp_region_noPanic ?_
  refine wp_region_late (fun w' => w'.cell? ⟨b8, 0, none⟩ = some x.vv ∧ w'.cell? ⟨b8, 1, none⟩ = some x.kv ∧ w'.cell? ⟨b8, 2, none⟩ = some x.wv ∧ w'.cell? ⟨b9, 0, none⟩ = some y.vv ∧ w'.cell? ⟨b9, 1, none⟩ = some y.kv ∧ w'.cell? ⟨b9, 2, none⟩ = some y.wv) 8 (by kernel_rfl) (HALL _ (Below.refl _ _).drew) (fun _ => ?_)
  obtain ⟨wd, hwd⟩ : ∃ x : World, wb9.drew = x := ⟨_, rfl⟩
  have bD : Below wb9.heap.size wb9 wd := by rw [← hwd]; exact (Below.refl _ _).drew
  rw [hwd]
  clear hwd
  have hHeld := HALL _ bD
  refine any_take (by kernel_rfl) (i := 0) (oi := _) (v := ?_) rfl rfl (by kernel_rfl) (by kernel_rfl) (by kernel_rfl) (fun _ _ _ h => h) (Or.inl ⟨by rfl, ?_⟩) hHeld ?_
  rotate_left
  · intro w' hSw; try dsimp only at hSw
    go_simp
    try with_reducible rfl
  try simp only [puts, gets]
  refine any_take (by kernel_rfl) (i := 1) (oi := _) (v := ?_) rfl rfl (by kernel_rfl) (by kernel_rfl) (by kernel_rfl) (fun _ _ _ h => h) (Or.inl ⟨by rfl, ?_⟩) hHeld ?_
  rotate_left
  · intro w' hSw; try dsimp only at hSw
    go_simp
    try with_reducible rfl
  try simp only [puts, gets]
  refine any_take (by kernel_rfl) (i := 3) (oi := _) (v := ?_) rfl rfl (by kernel_rfl) (by kernel_rfl) (by kernel_rfl) (fun _ _ _ h => h) (Or.inl ⟨by rfl, ?_⟩) hHeld ?_
  rotate_left
  · intro w' hSw; try dsimp only at hSw
    go_simp
    try with_reducible rfl
  try simp only [puts, gets]
  refine any_take (by kernel_rfl) (i := 4) (oi := _) (v := ?_) rfl rfl (by kernel_rfl) (by kernel_rfl) (by kernel_rfl) (fun _ _ _ h => h) (Or.inl ⟨by rfl, ?_⟩) hHeld ?_
  rotate_left
  · intro w' hSw; try dsimp only at hSw
    go_simp
    try with_reducible rfl
  try simp only [puts, gets]
  refine any_next (i := 2) (by kernel_rfl) rfl rfl (fun K hK => ?_)
  go_simp
  go_at_call 62
  refine (hRX _ (hT.keep bD) (hx.keep bD)).mono ?_
  rintro e wr1 ⟨u1, l1, rfl, HL1, HE1, bC⟩
  have R1 := HL1.rel (by have := congrArg List.length HE1.out; rw [rows_length] at this; omega)
  replace bD := below_trans bD bC
  clear bC HL1
  refine hK.out _ _ ?_ (fun hHeld => ?_)
  · exact HALL _ bD
  clear hK K
  try simp only [puts, gets]
  refine any_next (i := 5) (by kernel_rfl) rfl rfl (fun K hK => ?_)
  go_simp
  go_at_call 62
  refine (hRY _ (hT.keep bD) (hy.keep bD)).mono ?_
  rintro e wr2 ⟨u2, l2, rfl, HL2, HE2, bC⟩
  have R2 := HL2.rel (by have := congrArg List.length HE2.out; rw [rows_length] at this; omega)
  replace R1 := R1.keep bC
  replace bD := below_trans bD bC
  clear bC HL2
  refine hK.out _ _ ?_ (fun hHeld => ?_)
  · exact HALL _ bD
  clear hK K
  try simp only [puts, gets]
  refine any_next (i := 6) (by kernel_rfl) rfl rfl (fun K hK => ?_)
  go_simp
  go_at_call 24
  refine (rSameR_any _ _ l1 l2 _ R1 R2).mono ?_
  rintro e wr3 ⟨rfl, bC⟩
  rw [HE1.out, HE2.out]
  replace bD := below_trans bD bC
  clear bC R1 R2
  refine hK.out _ _ ?_ (fun hHeld => ?_)
  · exact HALL _ bD
  clear hK K
  try simp only [puts, gets]
  refine any_take (by kernel_rfl) (i := 7) (oi := _) (v := ?_) rfl rfl (by kernel_rfl) (by kernel_rfl) (by kernel_rfl) (fun _ _ _ h => h) (Or.inl ⟨by rfl, ?_⟩) hHeld ?_
  rotate_left
  · intro w' hSw; try dsimp only at hSw
    go_simp
    try with_reducible rfl
  try simp only [puts, gets]
  refine any_done (by kernel_rfl) ?_ _
  refine NoPanic.normal ?_
  have bN := bD
  clear bD hHeld HALL hRX hRY hlx hly hrx hry
  replace hT := hT.keep bN
  replace ha := ha.keep bN
  replace hb := hb.keep bN
  replace hx := hx.keep bN
  replace hy := hy.keep bN
  replace CX := CX.keep bN
  replace cx0 := CX.at_ (j := 0) rfl
  replace cx1 := CX.at_ (j := 1) rfl
  replace cx2 := CX.at_ (j := 2) rfl
  replace CY := CY.keep bN
  replace cy0 := CY.at_ (j := 0) rfl
  replace cy1 := CY.at_ (j := 1) rfl
  replace cy2 := CY.at_ (j := 2) rfl
  replace B1 := below_trans B1 bN
  clear bN
  obtain ⟨q, hq⟩ : ∃ q, decide (rowsT columns x.tr = rowsT columns y.tr) = q := ⟨_, rfl⟩
  rw [hq]
  have HQ := Lib.hid hq
  clear hq HE1 HE2
  go_wp2_with fail
  refine (UnionR_any _ _ xs ys _ hT ha hb HX.out HY.out).mono ?_
  rintro e wu ⟨u, rfl, us, RU, OU, bN⟩
  have HU := Lib.hid OU
  have SU := Lib.hid ((OU.sml _ _ HX4.out HY4.out).mono (m := 10000) (by decide))
  replace RU := RU.rel
  clear OU
  replace hT := hT.keep bN
  replace ha := ha.keep bN
  replace hb := hb.keep bN
  replace hx := hx.keep bN
  replace hy := hy.keep bN
  replace CX := CX.keep bN
  replace cx0 := CX.at_ (j := 0) rfl
  replace cx1 := CX.at_ (j := 1) rfl
  replace cx2 := CX.at_ (j := 2) rfl
  replace CY := CY.keep bN
  replace cy0 := CY.at_ (j := 0) rfl
  replace cy1 := CY.at_ (j := 1) rfl
  replace cy2 := CY.at_ (j := 2) rfl
  replace B1 := below_trans B1 bN
  clear bN
  go_wp2_with fail
  refine (TBuild_any _ columns us _ hT RU SU.out).mono ?_
  rintro e wp ⟨p, rfl, hp, HBP, bN⟩
  unfold trV
  replace hT := hT.keep bN
  replace ha := ha.keep bN
  replace hb := hb.keep bN
  replace hx := hx.keep bN
  replace hy := hy.keep bN
  replace RU := RU.keep bN
  replace CX := CX.keep bN
  replace cx0 := CX.at_ (j := 0) rfl
  replace cx1 := CX.at_ (j := 1) rfl
  replace cx2 := CX.at_ (j := 2) rfl
  replace CY := CY.keep bN
  replace cy0 := CY.at_ (j := 0) rfl
  replace cy1 := CY.at_ (j := 1) rfl
  replace cy2 := CY.at_ (j := 2) rfl
  replace B1 := below_trans B1 bN
  clear bN
  have CP := Cel.new wp 64 [p.vv, p.kv, p.wv]
  have bN := below_new wp (.cells #[p.vv, p.kv, p.wv] 64)
  go_upto_region 8 with fail
  obtain ⟨wb11, hw⟩ : ∃ zz, wp.alloc (.cells #[p.vv, p.kv, p.wv] 64) = zz := ⟨_, rfl⟩
  replace CP : Cel wb11 wp.heap.size 64 [p.vv, p.kv, p.wv] := by rw [← hw]; exact CP
  rw [hw] at bN
  try rw [hw]
  clear hw
  obtain ⟨b11, hb⟩ : ∃ g, wp.heap.size = g := ⟨_, rfl⟩
  rw [hb] at CP
  try rw [hb]
  clear hb
  replace hT := hT.keep bN
  replace ha := ha.keep bN
  replace hb := hb.keep bN
  replace hx := hx.keep bN
  replace hy := hy.keep bN
  replace RU := RU.keep bN
  replace hp := hp.keep bN
  replace CX := CX.keep bN
  replace cx0 := CX.at_ (j := 0) rfl
  replace cx1 := CX.at_ (j := 1) rfl
  replace cx2 := CX.at_ (j := 2) rfl
  replace CY := CY.keep bN
  replace cy0 := CY.at_ (j := 0) rfl
  replace cy1 := CY.at_ (j := 1) rfl
  replace cy2 := CY.at_ (j := 2) rfl
  replace B1 := below_trans B1 bN
  clear bN
  have cp0 := CP.at_ (j := 0) rfl
  have cp1 := CP.at_ (j := 1) rfl
  have cp2 := CP.at_ (j := 2) rfl
  have bE := below_new wb11 (.cells #[] 44)
  have H0 : Hold 2 44 encR RowOk noB (wb11.alloc (.cells #[] 44)) wb11.heap.size (.slice (some ⟨wb11.heap.size, 0, none⟩) 0 0) [] := ⟨Owns.lit wb11, by simp⟩
  have hxl := HX4.out.len
  have hyl := HY4.out.len
  have hm1 := (hb.keep bE).1
  have hmo1 := H0.offs' (fun r hr => hb.2 r hr) bE rfl
  have hsE : wb11.heap.size ≤ (wb11.alloc (.cells #[] 44)).heap.size := bE.size
  go_wp2_with (at_builtin; first | (refine wpList_hold fitsR24 encsR rfl (.tmp 50) (.tmp 51) rfl rfl rfl H0 (Below.refl _ _) hm1 hmo1 hsE (by simp) (by omega) ?_; intro p9 c9 w9 H9 B9 hG9; rw [List.nil_append] at H9; try simp only [List.nil_append]; have bF := bE.trans B9; have hm2 := (ha.keep bF).1; have hmo2 := H9.offs' (fun r hr => ha.2 r hr) bF rfl) | (refine wpList_hold fitsR24 encsR rfl (.tmp 52) (.tmp 53) rfl rfl rfl H9 (Below.refl _ _) hm2 hmo2 bF.size (by omega) (by omega) ?_; intro p10 c10 w10 H10 B10 hG10; rw [show (ys ++ xs).length = ys.length + xs.length from List.length_append]; have bG := bF.trans B10; have RC := H10.rel (by rw [List.length_append]; omega); rw [show (ys ++ xs).length = ys.length + xs.length from List.length_append] at RC))
  have HCS : Hid (rows (ys ++ xs) = rows ys ++ rows xs) := Lib.hid (rows_append _ _)
  have SC : Hid (Sml 10000 (ys ++ xs)) := Lib.hid ⟨by rw [List.length_append]; omega, fun r hr => by
    rcases List.mem_append.1 hr with hr | hr
    · exact HY4.out.each r hr
    · exact HX4.out.each r hr⟩
  obtain ⟨cs, hcs⟩ : ∃ l, ys ++ xs = l := ⟨_, rfl⟩
  rw [hcs] at RC HCS SC
  clear hcs H0 hm1 hmo1 H9 H10 hG9 hG10 hm2 hmo2 B9 B10 bE bF hxl hyl hsE
  have bN := bG
  clear bG
  replace hT := hT.keep bN
  replace ha := ha.keep bN
  replace hb := hb.keep bN
  replace hx := hx.keep bN
  replace hy := hy.keep bN
  replace RU := RU.keep bN
  replace hp := hp.keep bN
  replace CX := CX.keep bN
  replace cx0 := CX.at_ (j := 0) rfl
  replace cx1 := CX.at_ (j := 1) rfl
  replace cx2 := CX.at_ (j := 2) rfl
  replace CY := CY.keep bN
  replace cy0 := CY.at_ (j := 0) rfl
  replace cy1 := CY.at_ (j := 1) rfl
  replace cy2 := CY.at_ (j := 2) rfl
  replace CP := CP.keep bN
  replace cp0 := CP.at_ (j := 0) rfl
  replace cp1 := CP.at_ (j := 1) rfl
  replace cp2 := CP.at_ (j := 2) rfl
  replace B1 := below_trans B1 bN
  clear bN
  go_wp2_with fail
  refine (TBuild_any _ columns cs _ hT RC SC.out).mono ?_
  rintro e wz ⟨z, rfl, hz, HBZ, bN⟩
  unfold trV
  replace hT := hT.keep bN
  replace ha := ha.keep bN
  replace hb := hb.keep bN
  replace hx := hx.keep bN
  replace hy := hy.keep bN
  replace RU := RU.keep bN
  replace hp := hp.keep bN
  replace RC := RC.keep bN
  replace CX := CX.keep bN
  replace cx0 := CX.at_ (j := 0) rfl
  replace cx1 := CX.at_ (j := 1) rfl
  replace cx2 := CX.at_ (j := 2) rfl
  replace CY := CY.keep bN
  replace cy0 := CY.at_ (j := 0) rfl
  replace cy1 := CY.at_ (j := 1) rfl
  replace cy2 := CY.at_ (j := 2) rfl
  replace CP := CP.keep bN
  replace cp0 := CP.at_ (j := 0) rfl
  replace cp1 := CP.at_ (j := 1) rfl
  replace cp2 := CP.at_ (j := 2) rfl
  replace B1 := below_trans B1 bN
  clear bN
  have CZ := Cel.new wz 64 [z.vv, z.kv, z.wv]
  have bN := below_new wz (.cells #[z.vv, z.kv, z.wv] 64)
  go_upto_region 9 with fail
  obtain ⟨wb12, hw⟩ : ∃ zz, wz.alloc (.cells #[z.vv, z.kv, z.wv] 64) = zz := ⟨_, rfl⟩
  replace CZ : Cel wb12 wz.heap.size 64 [z.vv, z.kv, z.wv] := by rw [← hw]; exact CZ
  rw [hw] at bN
  try rw [hw]
  clear hw
  obtain ⟨b12, hb⟩ : ∃ g, wz.heap.size = g := ⟨_, rfl⟩
  rw [hb] at CZ
  try rw [hb]
  clear hb
  replace hT := hT.keep bN
  replace ha := ha.keep bN
  replace hb := hb.keep bN
  replace hx := hx.keep bN
  replace hy := hy.keep bN
  replace RU := RU.keep bN
  replace hp := hp.keep bN
  replace RC := RC.keep bN
  replace hz := hz.keep bN
  replace CX := CX.keep bN
  replace cx0 := CX.at_ (j := 0) rfl
  replace cx1 := CX.at_ (j := 1) rfl
  replace cx2 := CX.at_ (j := 2) rfl
  replace CY := CY.keep bN
  replace cy0 := CY.at_ (j := 0) rfl
  replace cy1 := CY.at_ (j := 1) rfl
  replace cy2 := CY.at_ (j := 2) rfl
  replace CP := CP.keep bN
  replace cp0 := CP.at_ (j := 0) rfl
  replace cp1 := CP.at_ (j := 1) rfl
  replace cp2 := CP.at_ (j := 2) rfl
  replace B1 := below_trans B1 bN
  clear bN
  have cz0 := CZ.at_ (j := 0) rfl
  have cz1 := CZ.at_ (j := 1) rfl
  have cz2 := CZ.at_ (j := 2) rfl
  have hC := fun W h1 h2 => same_all 8 (by decide) x y W h1 h2
  unfold trV at hC
  rw [law15_iff hc0 hc4 HBX.out HBY.out, HQ.out] at hC
  go_wp2_with fail
  refine (hC _ hx hy).mono ?_
  rintro e ws1 ⟨rfl, bN⟩
  clear hC
  replace hT := hT.keep bN
  replace ha := ha.keep bN
  replace hb := hb.keep bN
  replace hx := hx.keep bN
  replace hy := hy.keep bN
  replace RU := RU.keep bN
  replace hp := hp.keep bN
  replace RC := RC.keep bN
  replace hz := hz.keep bN
  replace CX := CX.keep bN
  replace cx0 := CX.at_ (j := 0) rfl
  replace cx1 := CX.at_ (j := 1) rfl
  replace cx2 := CX.at_ (j := 2) rfl
  replace CY := CY.keep bN
  replace cy0 := CY.at_ (j := 0) rfl
  replace cy1 := CY.at_ (j := 1) rfl
  replace cy2 := CY.at_ (j := 2) rfl
  replace CP := CP.keep bN
  replace cp0 := CP.at_ (j := 0) rfl
  replace cp1 := CP.at_ (j := 1) rfl
  replace cp2 := CP.at_ (j := 2) rfl
  replace CZ := CZ.keep bN
  replace cz0 := CZ.at_ (j := 0) rfl
  replace cz1 := CZ.at_ (j := 1) rfl
  replace cz2 := CZ.at_ (j := 2) rfl
  replace B1 := below_trans B1 bN
  clear bN
  have hqq : (q == q) = true := by cases q <;> rfl
  have hC := fun W h1 h2 => same_all 8 (by decide) p z W h1 h2
  unfold trV at hC
  rw [law15_sum hc0 hc4 HU.out HBP.out HCS.out HBZ.out] at hC
  go_wp2_with fail
  refine (hC _ hp hz).mono ?_
  rintro e ws2 ⟨rfl, bN⟩
  clear hC
  replace hT := hT.keep bN
  replace ha := ha.keep bN
  replace hb := hb.keep bN
  replace hx := hx.keep bN
  replace hy := hy.keep bN
  replace RU := RU.keep bN
  replace hp := hp.keep bN
  replace RC := RC.keep bN
  replace hz := hz.keep bN
  replace CX := CX.keep bN
  replace cx0 := CX.at_ (j := 0) rfl
  replace cx1 := CX.at_ (j := 1) rfl
  replace cx2 := CX.at_ (j := 2) rfl
  replace CY := CY.keep bN
  replace cy0 := CY.at_ (j := 0) rfl
  replace cy1 := CY.at_ (j := 1) rfl
  replace cy2 := CY.at_ (j := 2) rfl
  replace CP := CP.keep bN
  replace cp0 := CP.at_ (j := 0) rfl
  replace cp1 := CP.at_ (j := 1) rfl
  replace cp2 := CP.at_ (j := 2) rfl
  replace CZ := CZ.keep bN
  replace cz0 := CZ.at_ (j := 0) rfl
  replace cz1 := CZ.at_ (j := 1) rfl
  replace cz2 := CZ.at_ (j := 2) rfl
  replace B1 := below_trans B1 bN
  clear bN
  cases q with
  | false =>
    go_wp2
    go_ret
    exact ⟨rfl, B1⟩
  | true =>
    have hC := fun W h1 h2 => same_all 8 (by decide) p x W h1 h2
    unfold trV at hC
    rw [law15_same hc0 hc4 HBX.out HBY.out (of_decide_eq_true HQ.out) HU.out HBP.out] at hC
    go_wp2_with fail
    refine (hC _ hp hx).mono ?_
    rintro e ws3 ⟨rfl, bN⟩
    clear hC
    replace hT := hT.keep bN
    replace ha := ha.keep bN
    replace hb := hb.keep bN
    replace hx := hx.keep bN
    replace hy := hy.keep bN
    replace RU := RU.keep bN
    replace hp := hp.keep bN
    replace RC := RC.keep bN
    replace hz := hz.keep bN
    replace CX := CX.keep bN
    replace cx0 := CX.at_ (j := 0) rfl
    replace cx1 := CX.at_ (j := 1) rfl
    replace cx2 := CX.at_ (j := 2) rfl
    replace CY := CY.keep bN
    replace cy0 := CY.at_ (j := 0) rfl
    replace cy1 := CY.at_ (j := 1) rfl
    replace cy2 := CY.at_ (j := 2) rfl
    replace CP := CP.keep bN
    replace cp0 := CP.at_ (j := 0) rfl
    replace cp1 := CP.at_ (j := 1) rfl
    replace cp2 := CP.at_ (j := 2) rfl
    replace CZ := CZ.keep bN
    replace cz0 := CZ.at_ (j := 0) rfl
    replace cz1 := CZ.at_ (j := 1) rfl
    replace cz2 := CZ.at_ (j := 2) rfl
    replace B1 := below_trans B1 bN
    clear bN
    go_wp2
    go_ret
    exact ⟨rfl, B1⟩
end Go.Proofs.YtdibijhaiaiifaaDoor
