/- The walk of the law TriePrefixes. -/
import Derived.Test.YtdibijhaiaiifaaDoorJ31
import Derived.Test.YtdibijhaiaiifaaDoorJ30
namespace Go.Proofs.YtdibijhaiaiifaaDoor
open Go.RowKit
theorem name_enc (i : Nat) (h : i < 4) : ∃ d : UInt8, (⟨#[88]⟩ : ByteArray) ++ Utf8.encode (48 + (i : Int)) = ⟨#[88, d]⟩ ∧ d = UInt8.ofNat (48 + i) := by
  rcases (show i = 0 ∨ i = 1 ∨ i = 2 ∨ i = 3 by omega) with rfl | rfl | rfl | rfl <;> exact ⟨_, by kernel_rfl, rfl⟩
theorem Hold.offs' {w w' : World} {m : List RR} {v : Value} {out : List RR} {wr : World} {base : Nat} (H : Hold 2 44 encR RowOk noB wr base v out) (hr : ∀ r ∈ m, RowOk w r) (hb : Below w.heap.size w w') (hw : base = w.heap.size) : ∀ u ∈ m, Off RowOk w' (Ex v noB) u := fun u hu => by
  refine Off.old (w := w) (fun a b => rowOk_keep a b _) (hr u hu) hb fun k hk => ?_
  rcases hk with hk | hk
  · rw [← hw]; exact (H.1.lt k hk).1
  · exact hk.elim
theorem fitsTm : Fits 39 60 4 48 (.agg #[.string ⟨#[]⟩, .int .i64 0, .int .i64 0, .string ⟨#[]⟩]) := ⟨Tryd.underlying39, by kernel_rfl, by kernel_rfl, by decide, by decide⟩
theorem sub_lim {n : Nat} {F : List Rw} {p : List Vl} {x : Tr} (hg : Gd n F) (hl : F.length ≤ 10000) (hs : SubI p (buildT n F) (some x)) : Lim x := by
  have e := sub_is hg hs
  cases h : subB n F p with
  | none => rw [h] at e; cases e
  | some q =>
    obtain ⟨m, F'⟩ := q
    rw [h] at e
    have hx : x = buildT m F' := Option.some.inj e
    rw [hx]
    by_cases hpl : p.length ≤ n
    · obtain ⟨-, hg', hF', -⟩ := (subB_rows (p := p) hg hpl).1 m F' h
      refine lim_build hg' ?_
      rw [hF', List.length_map]
      exact Nat.le_trans (List.length_filter_le _ _) hl
    · rw [subB_long (by omega)] at h; cases h
set_option maxHeartbeats 16000000 in
set_option maxRecDepth 1000000 in
theorem law16_any (columns : Int) (va vp : Value) (cut : Int) (xs : List RR) (p : List Vl) (w : World) (hT : Tab w) (ha : IsRel w va xs) (hp : IsVals w vp p) (hcu : 0 ≤ cut ∧ cut < 256) : Calls Tryd.prog 16 #[.int .i64 columns, va, vp, .int .u8 cut] w fun e w' => e = .returned (.bool true) ∧ Below w.heap.size w w' := by
  obtain ⟨pa, ca, rfl, -⟩ := ha.shape
  obtain ⟨pp, pc, rfl, -, hpm, hpc, hpx⟩ := id hp
  obtain ⟨cn, rfl⟩ : ∃ n : Nat, cut = n := ⟨cut.toNat, by omega⟩
  go_enter Tryd.func16, Tryd.ntmps16
  have B1 := Below.refl w.heap.size w
  go_wp2_with fail
  refine (thead_any _ hT).mono ?_
  rintro e w1 ⟨rfl, bN⟩
  replace hT := hT.keep bN
  replace ha := ha.keep bN
  replace hp := hp.keep bN
  replace B1 := below_trans B1 bN
  clear bN
  go_wp2_with fail
  refine (fewR_any _ xs _ ha).mono ?_
  rintro e w2 ⟨rfl, bN⟩
  replace hT := hT.keep bN
  replace ha := ha.keep bN
  replace hp := hp.keep bN
  replace B1 := below_trans B1 bN
  clear bN
  cases hf : fewR xs
  · clear hf
    go_wp2
    go_ret
    exact ⟨rfl, B1⟩
  have HX4 := Lib.hid (fewR_sml hf)
  have HX := Lib.hid ((fewR_sml hf).mono (m := 10000) (by decide))
  clear hf
  obtain ⟨np, hnp⟩ : ∃ n, p.length = n := ⟨_, rfl⟩
  rw [hnp] at hp hpm hpc
  rw [hnp]
  have HNP := Lib.hid hnp
  clear hnp
  by_cases hd1 : columns < 0
  · go_wp2
    go_ret
    exact ⟨rfl, B1⟩
  obtain ⟨nc, rfl⟩ : ∃ n : Nat, columns = n := ⟨columns.toNat, by omega⟩
  by_cases hd2 : (4 : Int) < (nc : Int)
  · go_wp2
    go_ret
    exact ⟨rfl, B1⟩
  by_cases hd3 : nc < np
  · have hd3z : (nc : Int) < (np : Int) := by omega
    go_wp2
    go_ret
    exact ⟨rfl, B1⟩
  have hd3z : ¬ (nc : Int) < (np : Int) := by omega
  have HC := Lib.hid (show (0 : Int) ≤ (nc : Int) ∧ (nc : Int) ≤ 4 from ⟨by omega, by omega⟩)
  have hnc4 : nc ≤ 4 := by omega
  have hnpc : np ≤ nc := by omega
  go_wp2_with fail
  refine (TBuild_any _ (nc : Int) xs _ hT ha HX.out).mono ?_
  rintro e wt ⟨t, rfl, ht, HBT, bN⟩
  unfold trV
  replace hT := hT.keep bN
  replace ha := ha.keep bN
  replace hp := hp.keep bN
  replace B1 := below_trans B1 bN
  clear bN
  have CT := Cel.new wt 64 [t.vv, t.kv, t.wv]
  have bN := below_new wt (.cells #[t.vv, t.kv, t.wv] 64)
  go_upto_region 5 with fail
  obtain ⟨wb10, hw⟩ : ∃ zz, wt.alloc (.cells #[t.vv, t.kv, t.wv] 64) = zz := ⟨_, rfl⟩
  replace CT : Cel wb10 wt.heap.size 64 [t.vv, t.kv, t.wv] := by rw [← hw]; exact CT
  rw [hw] at bN
  try rw [hw]
  clear hw
  obtain ⟨b10, hb⟩ : ∃ g, wt.heap.size = g := ⟨_, rfl⟩
  rw [hb] at CT
  try rw [hb]
  clear hb
  replace hT := hT.keep bN
  replace ha := ha.keep bN
  replace hp := hp.keep bN
  replace ht := ht.keep bN
  replace B1 := below_trans B1 bN
  clear bN
  have ct0 := CT.at_ (j := 0) rfl
  have ct1 := CT.at_ (j := 1) rfl
  have ct2 := CT.at_ (j := 2) rfl
  obtain ⟨-, -, hqt, hlt⟩ := built_facts HBT.out HX.out
  have HQT := Lib.hid hqt
  clear hqt hlt
  have hO0 : Owns 4 60 encTm (wb10.alloc (.cells #[] 60)) wb10.heap.size (.slice (some ⟨wb10.heap.size, 0, none⟩) 0 0) [] := Owns.lit wb10
  have bL := below_new wb10 (.cells #[] 60)
  clear hd1 hd2 hd3 hd3z
  go_wp2
  go_loopg [11, 12, 13] nc (fun g v11 vi v13 wr => ∃ (i : Nat) (ts : List Tm), vi = .int .i64 i ∧ i ≤ nc ∧ nc - i ≤ g ∧ Hid (TermsI p ts ∧ ts.length = i) ∧ Owns 4 60 encTm wr wb10.heap.size v11 ts ∧ Below wb10.heap.size wb10 wr)
  case atStart => exact ⟨0, [], rfl, Nat.zero_le _, Nat.le_refl _, Lib.hid ⟨TermsI.nil p, rfl⟩, hO0, bL⟩
  case round =>
    obtain ⟨i, ts, rfl, hi, hg, V, H11, B⟩ := hrel
    clear hO0 bL
    obtain ⟨p11, c11, rfl⟩ := H11.form
    have htl : ts.length ≤ 4 := by rw [V.out.2]; omega
    by_cases hlt : i < nc
    · have hltz : (i : Int) < (nc : Int) := by omega
      obtain ⟨d, hut, hdd0⟩ := name_enc i (by omega)
      have HDD := Lib.hid hdd0
      clear hdd0
      have hi4 := hlt
      rcases (show i = 0 ∨ i = 1 ∨ i = 2 ∨ i = 3 by omega) with rfl | rfl | rfl | rfl
      · replace hut : (⟨#[88]⟩ : ByteArray) ++ Utf8.encode 48 = ⟨#[88, d]⟩ := hut
        by_cases hin : 0 < np
        · have hinz : ((0 : Nat) : Int) < (np : Int) := by omega
          obtain ⟨y, hy⟩ := getV (l := p) (i := 0) (by have := HNP.out; omega)
          obtain ⟨yb, yo, e, y0, y1, y2⟩ := vals_at' (hp.keep (B.trans ((below_new wr (.cells #[Value.string ⟨#[88, d]⟩, .int .i64 0, .int .i64 0, Value.string ⟨#[]⟩] 60)).mono B.size))) hy
          cases e
          have HY := Lib.hid hy
          clear hy
          unfold strV at y2
          simp only [Nat.zero_mul, Nat.add_zero] at y0 y1 y2
          have V2 := Lib.hid (show TermsI p (ts ++ [(⟨[], y, by simp⟩ : Tm)]) ∧ (ts ++ [(⟨[], y, by simp⟩ : Tm)]).length = 0 + 1 from ⟨V.out.1.push (fun h => ⟨rfl, by rw [V.out.2, HY.out]⟩) (fun h => absurd h (by rw [V.out.2, HNP.out]; omega)), by rw [List.length_append, V.out.2]; rfl⟩)
          go_upto_region 12 with fail
          have C7 := Cel.new wr 60 [Value.string ⟨#[]⟩, .int .i64 y.t, .int .i64 y.n, .string ⟨y.s.toArray⟩]
          obtain ⟨w7, hw7⟩ : ∃ z, wr.alloc (.cells #[Value.string ⟨#[]⟩, .int .i64 y.t, .int .i64 y.n, .string ⟨y.s.toArray⟩] 60) = z := ⟨_, rfl⟩
          rw [hw7] at C7
          rw [hw7]
          have b7 : Below wr.heap.size wr w7 := by rw [← hw7]; exact below_new _ _
          clear hw7
          clear y0 y1 y2
          obtain ⟨g7, hg7⟩ : ∃ g, wr.heap.size = g := ⟨_, rfl⟩
          have hg7' := hg7
          rw [hg7] at C7
          rw [hg7]
          clear hg7
          have c0 := C7.at_ (j := 0) rfl
          have c1 := C7.at_ (j := 1) rfl
          have c2 := C7.at_ (j := 2) rfl
          have c3 := C7.at_ (j := 3) rfl
          have bX : Below wr.heap.size wr (w7.alloc (.cells #[Value.string ⟨#[]⟩, .int .i64 y.t, .int .i64 y.n, .string ⟨y.s.toArray⟩] 60)) := b7.trans ((below_new _ _).mono b7.size)
          have hmr : IsRows 4 encTm (w7.alloc (.cells #[Value.string ⟨#[]⟩, .int .i64 y.t, .int .i64 y.n, .string ⟨y.s.toArray⟩] 60)) (.slice (some ⟨w7.heap.size, 0, none⟩) 1 1) [(⟨[], y, by simp⟩ : Tm)] := IsRows.lit w7 [(⟨[], y, by simp⟩ : Tm)] encsTm (by simp)
          go_wp2_with (at_builtin; refine wpList_own fitsTm encsTm rfl _ _ rfl rfl rfl H11 bX hmr B.size (by omega) (by simp) ?_; intro p9 c9 w9 H9 B9 hG9 hU9)
          have B9' := B.trans B9
          rw [show (ts ++ [(⟨[], y, by simp⟩ : Tm)]).length = ts.length + 1 from by simp] at H9
          go_roundg (nc - (0 + 1))
          case measure => omega
          case rel => exact ⟨0 + 1, ts ++ [(⟨[], y, by simp⟩ : Tm)], by go_num, hlt, Nat.le_refl _, V2, H9, B9'⟩
        · have hinz : ¬ ((0 : Nat) : Int) < (np : Int) := by omega
          have V2 := Lib.hid (show TermsI p (ts ++ [(⟨[88, d], zeroVl, by simp⟩ : Tm)]) ∧ (ts ++ [(⟨[88, d], zeroVl, by simp⟩ : Tm)]).length = 0 + 1 from ⟨V.out.1.push (fun h => absurd h (by rw [V.out.2, HNP.out]; omega)) (fun h => by rw [V.out.2, HDD.out]), by rw [List.length_append, V.out.2]; rfl⟩)
          go_upto_region 12 with fail
          have C7 := Cel.new wr 60 [Value.string ⟨#[88, d]⟩, .int .i64 0, .int .i64 0, Value.string ⟨#[]⟩]
          obtain ⟨w7, hw7⟩ : ∃ z, wr.alloc (.cells #[Value.string ⟨#[88, d]⟩, .int .i64 0, .int .i64 0, Value.string ⟨#[]⟩] 60) = z := ⟨_, rfl⟩
          rw [hw7] at C7
          rw [hw7]
          have b7 : Below wr.heap.size wr w7 := by rw [← hw7]; exact below_new _ _
          clear hw7
          obtain ⟨g7, hg7⟩ : ∃ g, wr.heap.size = g := ⟨_, rfl⟩
          have hg7' := hg7
          rw [hg7] at C7
          rw [hg7]
          clear hg7
          have c0 := C7.at_ (j := 0) rfl
          have c1 := C7.at_ (j := 1) rfl
          have c2 := C7.at_ (j := 2) rfl
          have c3 := C7.at_ (j := 3) rfl
          have bX : Below wr.heap.size wr (w7.alloc (.cells #[Value.string ⟨#[88, d]⟩, .int .i64 0, .int .i64 0, Value.string ⟨#[]⟩] 60)) := b7.trans ((below_new _ _).mono b7.size)
          have hmr : IsRows 4 encTm (w7.alloc (.cells #[Value.string ⟨#[88, d]⟩, .int .i64 0, .int .i64 0, Value.string ⟨#[]⟩] 60)) (.slice (some ⟨w7.heap.size, 0, none⟩) 1 1) [(⟨[88, d], zeroVl, by simp⟩ : Tm)] := IsRows.lit w7 [(⟨[88, d], zeroVl, by simp⟩ : Tm)] encsTm (by simp)
          go_wp2_with (at_builtin; refine wpList_own fitsTm encsTm rfl _ _ rfl rfl rfl H11 bX hmr B.size (by omega) (by simp) ?_; intro p9 c9 w9 H9 B9 hG9 hU9)
          have B9' := B.trans B9
          rw [show (ts ++ [(⟨[88, d], zeroVl, by simp⟩ : Tm)]).length = ts.length + 1 from by simp] at H9
          go_roundg (nc - (0 + 1))
          case measure => omega
          case rel => exact ⟨0 + 1, ts ++ [(⟨[88, d], zeroVl, by simp⟩ : Tm)], by go_num, hlt, Nat.le_refl _, V2, H9, B9'⟩
      · replace hut : (⟨#[88]⟩ : ByteArray) ++ Utf8.encode 49 = ⟨#[88, d]⟩ := hut
        by_cases hin : 1 < np
        · have hinz : ((1 : Nat) : Int) < (np : Int) := by omega
          obtain ⟨y, hy⟩ := getV (l := p) (i := 1) (by have := HNP.out; omega)
          obtain ⟨yb, yo, e, y0, y1, y2⟩ := vals_at' (hp.keep (B.trans ((below_new wr (.cells #[Value.string ⟨#[88, d]⟩, .int .i64 0, .int .i64 0, Value.string ⟨#[]⟩] 60)).mono B.size))) hy
          cases e
          have HY := Lib.hid hy
          clear hy
          unfold strV at y2
          simp only [Nat.one_mul] at y0 y1 y2
          have y1' := y1
          have y2' := y2
          simp only [Nat.add_assoc, Nat.reduceAdd] at y1' y2'
          have V2 := Lib.hid (show TermsI p (ts ++ [(⟨[], y, by simp⟩ : Tm)]) ∧ (ts ++ [(⟨[], y, by simp⟩ : Tm)]).length = 1 + 1 from ⟨V.out.1.push (fun h => ⟨rfl, by rw [V.out.2, HY.out]⟩) (fun h => absurd h (by rw [V.out.2, HNP.out]; omega)), by rw [List.length_append, V.out.2]; rfl⟩)
          go_upto_region 12 with fail
          have C7 := Cel.new wr 60 [Value.string ⟨#[]⟩, .int .i64 y.t, .int .i64 y.n, .string ⟨y.s.toArray⟩]
          obtain ⟨w7, hw7⟩ : ∃ z, wr.alloc (.cells #[Value.string ⟨#[]⟩, .int .i64 y.t, .int .i64 y.n, .string ⟨y.s.toArray⟩] 60) = z := ⟨_, rfl⟩
          rw [hw7] at C7
          rw [hw7]
          have b7 : Below wr.heap.size wr w7 := by rw [← hw7]; exact below_new _ _
          clear hw7
          clear y0 y1 y2 y1' y2'
          obtain ⟨g7, hg7⟩ : ∃ g, wr.heap.size = g := ⟨_, rfl⟩
          have hg7' := hg7
          rw [hg7] at C7
          rw [hg7]
          clear hg7
          have c0 := C7.at_ (j := 0) rfl
          have c1 := C7.at_ (j := 1) rfl
          have c2 := C7.at_ (j := 2) rfl
          have c3 := C7.at_ (j := 3) rfl
          have bX : Below wr.heap.size wr (w7.alloc (.cells #[Value.string ⟨#[]⟩, .int .i64 y.t, .int .i64 y.n, .string ⟨y.s.toArray⟩] 60)) := b7.trans ((below_new _ _).mono b7.size)
          have hmr : IsRows 4 encTm (w7.alloc (.cells #[Value.string ⟨#[]⟩, .int .i64 y.t, .int .i64 y.n, .string ⟨y.s.toArray⟩] 60)) (.slice (some ⟨w7.heap.size, 0, none⟩) 1 1) [(⟨[], y, by simp⟩ : Tm)] := IsRows.lit w7 [(⟨[], y, by simp⟩ : Tm)] encsTm (by simp)
          go_wp2_with (at_builtin; refine wpList_own fitsTm encsTm rfl _ _ rfl rfl rfl H11 bX hmr B.size (by omega) (by simp) ?_; intro p9 c9 w9 H9 B9 hG9 hU9)
          have B9' := B.trans B9
          rw [show (ts ++ [(⟨[], y, by simp⟩ : Tm)]).length = ts.length + 1 from by simp] at H9
          go_roundg (nc - (1 + 1))
          case measure => omega
          case rel => exact ⟨1 + 1, ts ++ [(⟨[], y, by simp⟩ : Tm)], by go_num, hlt, Nat.le_refl _, V2, H9, B9'⟩
        · have hinz : ¬ ((1 : Nat) : Int) < (np : Int) := by omega
          have V2 := Lib.hid (show TermsI p (ts ++ [(⟨[88, d], zeroVl, by simp⟩ : Tm)]) ∧ (ts ++ [(⟨[88, d], zeroVl, by simp⟩ : Tm)]).length = 1 + 1 from ⟨V.out.1.push (fun h => absurd h (by rw [V.out.2, HNP.out]; omega)) (fun h => by rw [V.out.2, HDD.out]), by rw [List.length_append, V.out.2]; rfl⟩)
          go_upto_region 12 with fail
          have C7 := Cel.new wr 60 [Value.string ⟨#[88, d]⟩, .int .i64 0, .int .i64 0, Value.string ⟨#[]⟩]
          obtain ⟨w7, hw7⟩ : ∃ z, wr.alloc (.cells #[Value.string ⟨#[88, d]⟩, .int .i64 0, .int .i64 0, Value.string ⟨#[]⟩] 60) = z := ⟨_, rfl⟩
          rw [hw7] at C7
          rw [hw7]
          have b7 : Below wr.heap.size wr w7 := by rw [← hw7]; exact below_new _ _
          clear hw7
          obtain ⟨g7, hg7⟩ : ∃ g, wr.heap.size = g := ⟨_, rfl⟩
          have hg7' := hg7
          rw [hg7] at C7
          rw [hg7]
          clear hg7
          have c0 := C7.at_ (j := 0) rfl
          have c1 := C7.at_ (j := 1) rfl
          have c2 := C7.at_ (j := 2) rfl
          have c3 := C7.at_ (j := 3) rfl
          have bX : Below wr.heap.size wr (w7.alloc (.cells #[Value.string ⟨#[88, d]⟩, .int .i64 0, .int .i64 0, Value.string ⟨#[]⟩] 60)) := b7.trans ((below_new _ _).mono b7.size)
          have hmr : IsRows 4 encTm (w7.alloc (.cells #[Value.string ⟨#[88, d]⟩, .int .i64 0, .int .i64 0, Value.string ⟨#[]⟩] 60)) (.slice (some ⟨w7.heap.size, 0, none⟩) 1 1) [(⟨[88, d], zeroVl, by simp⟩ : Tm)] := IsRows.lit w7 [(⟨[88, d], zeroVl, by simp⟩ : Tm)] encsTm (by simp)
          go_wp2_with (at_builtin; refine wpList_own fitsTm encsTm rfl _ _ rfl rfl rfl H11 bX hmr B.size (by omega) (by simp) ?_; intro p9 c9 w9 H9 B9 hG9 hU9)
          have B9' := B.trans B9
          rw [show (ts ++ [(⟨[88, d], zeroVl, by simp⟩ : Tm)]).length = ts.length + 1 from by simp] at H9
          go_roundg (nc - (1 + 1))
          case measure => omega
          case rel => exact ⟨1 + 1, ts ++ [(⟨[88, d], zeroVl, by simp⟩ : Tm)], by go_num, hlt, Nat.le_refl _, V2, H9, B9'⟩
      · replace hut : (⟨#[88]⟩ : ByteArray) ++ Utf8.encode 50 = ⟨#[88, d]⟩ := hut
        by_cases hin : 2 < np
        · have hinz : ((2 : Nat) : Int) < (np : Int) := by omega
          obtain ⟨y, hy⟩ := getV (l := p) (i := 2) (by have := HNP.out; omega)
          obtain ⟨yb, yo, e, y0, y1, y2⟩ := vals_at' (hp.keep (B.trans ((below_new wr (.cells #[Value.string ⟨#[88, d]⟩, .int .i64 0, .int .i64 0, Value.string ⟨#[]⟩] 60)).mono B.size))) hy
          cases e
          have HY := Lib.hid hy
          clear hy
          unfold strV at y2
          simp only [Nat.reduceMul] at y0 y1 y2
          have y1' := y1
          have y2' := y2
          simp only [Nat.add_assoc, Nat.reduceAdd] at y1' y2'
          have V2 := Lib.hid (show TermsI p (ts ++ [(⟨[], y, by simp⟩ : Tm)]) ∧ (ts ++ [(⟨[], y, by simp⟩ : Tm)]).length = 2 + 1 from ⟨V.out.1.push (fun h => ⟨rfl, by rw [V.out.2, HY.out]⟩) (fun h => absurd h (by rw [V.out.2, HNP.out]; omega)), by rw [List.length_append, V.out.2]; rfl⟩)
          go_upto_region 12 with fail
          have C7 := Cel.new wr 60 [Value.string ⟨#[]⟩, .int .i64 y.t, .int .i64 y.n, .string ⟨y.s.toArray⟩]
          obtain ⟨w7, hw7⟩ : ∃ z, wr.alloc (.cells #[Value.string ⟨#[]⟩, .int .i64 y.t, .int .i64 y.n, .string ⟨y.s.toArray⟩] 60) = z := ⟨_, rfl⟩
          rw [hw7] at C7
          rw [hw7]
          have b7 : Below wr.heap.size wr w7 := by rw [← hw7]; exact below_new _ _
          clear hw7
          clear y0 y1 y2 y1' y2'
          obtain ⟨g7, hg7⟩ : ∃ g, wr.heap.size = g := ⟨_, rfl⟩
          have hg7' := hg7
          rw [hg7] at C7
          rw [hg7]
          clear hg7
          have c0 := C7.at_ (j := 0) rfl
          have c1 := C7.at_ (j := 1) rfl
          have c2 := C7.at_ (j := 2) rfl
          have c3 := C7.at_ (j := 3) rfl
          have bX : Below wr.heap.size wr (w7.alloc (.cells #[Value.string ⟨#[]⟩, .int .i64 y.t, .int .i64 y.n, .string ⟨y.s.toArray⟩] 60)) := b7.trans ((below_new _ _).mono b7.size)
          have hmr : IsRows 4 encTm (w7.alloc (.cells #[Value.string ⟨#[]⟩, .int .i64 y.t, .int .i64 y.n, .string ⟨y.s.toArray⟩] 60)) (.slice (some ⟨w7.heap.size, 0, none⟩) 1 1) [(⟨[], y, by simp⟩ : Tm)] := IsRows.lit w7 [(⟨[], y, by simp⟩ : Tm)] encsTm (by simp)
          go_wp2_with (at_builtin; refine wpList_own fitsTm encsTm rfl _ _ rfl rfl rfl H11 bX hmr B.size (by omega) (by simp) ?_; intro p9 c9 w9 H9 B9 hG9 hU9)
          have B9' := B.trans B9
          rw [show (ts ++ [(⟨[], y, by simp⟩ : Tm)]).length = ts.length + 1 from by simp] at H9
          go_roundg (nc - (2 + 1))
          case measure => omega
          case rel => exact ⟨2 + 1, ts ++ [(⟨[], y, by simp⟩ : Tm)], by go_num, hlt, Nat.le_refl _, V2, H9, B9'⟩
        · have hinz : ¬ ((2 : Nat) : Int) < (np : Int) := by omega
          have V2 := Lib.hid (show TermsI p (ts ++ [(⟨[88, d], zeroVl, by simp⟩ : Tm)]) ∧ (ts ++ [(⟨[88, d], zeroVl, by simp⟩ : Tm)]).length = 2 + 1 from ⟨V.out.1.push (fun h => absurd h (by rw [V.out.2, HNP.out]; omega)) (fun h => by rw [V.out.2, HDD.out]), by rw [List.length_append, V.out.2]; rfl⟩)
          go_upto_region 12 with fail
          have C7 := Cel.new wr 60 [Value.string ⟨#[88, d]⟩, .int .i64 0, .int .i64 0, Value.string ⟨#[]⟩]
          obtain ⟨w7, hw7⟩ : ∃ z, wr.alloc (.cells #[Value.string ⟨#[88, d]⟩, .int .i64 0, .int .i64 0, Value.string ⟨#[]⟩] 60) = z := ⟨_, rfl⟩
          rw [hw7] at C7
          rw [hw7]
          have b7 : Below wr.heap.size wr w7 := by rw [← hw7]; exact below_new _ _
          clear hw7
          obtain ⟨g7, hg7⟩ : ∃ g, wr.heap.size = g := ⟨_, rfl⟩
          have hg7' := hg7
          rw [hg7] at C7
          rw [hg7]
          clear hg7
          have c0 := C7.at_ (j := 0) rfl
          have c1 := C7.at_ (j := 1) rfl
          have c2 := C7.at_ (j := 2) rfl
          have c3 := C7.at_ (j := 3) rfl
          have bX : Below wr.heap.size wr (w7.alloc (.cells #[Value.string ⟨#[88, d]⟩, .int .i64 0, .int .i64 0, Value.string ⟨#[]⟩] 60)) := b7.trans ((below_new _ _).mono b7.size)
          have hmr : IsRows 4 encTm (w7.alloc (.cells #[Value.string ⟨#[88, d]⟩, .int .i64 0, .int .i64 0, Value.string ⟨#[]⟩] 60)) (.slice (some ⟨w7.heap.size, 0, none⟩) 1 1) [(⟨[88, d], zeroVl, by simp⟩ : Tm)] := IsRows.lit w7 [(⟨[88, d], zeroVl, by simp⟩ : Tm)] encsTm (by simp)
          go_wp2_with (at_builtin; refine wpList_own fitsTm encsTm rfl _ _ rfl rfl rfl H11 bX hmr B.size (by omega) (by simp) ?_; intro p9 c9 w9 H9 B9 hG9 hU9)
          have B9' := B.trans B9
          rw [show (ts ++ [(⟨[88, d], zeroVl, by simp⟩ : Tm)]).length = ts.length + 1 from by simp] at H9
          go_roundg (nc - (2 + 1))
          case measure => omega
          case rel => exact ⟨2 + 1, ts ++ [(⟨[88, d], zeroVl, by simp⟩ : Tm)], by go_num, hlt, Nat.le_refl _, V2, H9, B9'⟩
      · replace hut : (⟨#[88]⟩ : ByteArray) ++ Utf8.encode 51 = ⟨#[88, d]⟩ := hut
        by_cases hin : 3 < np
        · have hinz : ((3 : Nat) : Int) < (np : Int) := by omega
          obtain ⟨y, hy⟩ := getV (l := p) (i := 3) (by have := HNP.out; omega)
          obtain ⟨yb, yo, e, y0, y1, y2⟩ := vals_at' (hp.keep (B.trans ((below_new wr (.cells #[Value.string ⟨#[88, d]⟩, .int .i64 0, .int .i64 0, Value.string ⟨#[]⟩] 60)).mono B.size))) hy
          cases e
          have HY := Lib.hid hy
          clear hy
          unfold strV at y2
          simp only [Nat.reduceMul] at y0 y1 y2
          have y1' := y1
          have y2' := y2
          simp only [Nat.add_assoc, Nat.reduceAdd] at y1' y2'
          have V2 := Lib.hid (show TermsI p (ts ++ [(⟨[], y, by simp⟩ : Tm)]) ∧ (ts ++ [(⟨[], y, by simp⟩ : Tm)]).length = 3 + 1 from ⟨V.out.1.push (fun h => ⟨rfl, by rw [V.out.2, HY.out]⟩) (fun h => absurd h (by rw [V.out.2, HNP.out]; omega)), by rw [List.length_append, V.out.2]; rfl⟩)
          go_upto_region 12 with fail
          have C7 := Cel.new wr 60 [Value.string ⟨#[]⟩, .int .i64 y.t, .int .i64 y.n, .string ⟨y.s.toArray⟩]
          obtain ⟨w7, hw7⟩ : ∃ z, wr.alloc (.cells #[Value.string ⟨#[]⟩, .int .i64 y.t, .int .i64 y.n, .string ⟨y.s.toArray⟩] 60) = z := ⟨_, rfl⟩
          rw [hw7] at C7
          rw [hw7]
          have b7 : Below wr.heap.size wr w7 := by rw [← hw7]; exact below_new _ _
          clear hw7
          clear y0 y1 y2 y1' y2'
          obtain ⟨g7, hg7⟩ : ∃ g, wr.heap.size = g := ⟨_, rfl⟩
          have hg7' := hg7
          rw [hg7] at C7
          rw [hg7]
          clear hg7
          have c0 := C7.at_ (j := 0) rfl
          have c1 := C7.at_ (j := 1) rfl
          have c2 := C7.at_ (j := 2) rfl
          have c3 := C7.at_ (j := 3) rfl
          have bX : Below wr.heap.size wr (w7.alloc (.cells #[Value.string ⟨#[]⟩, .int .i64 y.t, .int .i64 y.n, .string ⟨y.s.toArray⟩] 60)) := b7.trans ((below_new _ _).mono b7.size)
          have hmr : IsRows 4 encTm (w7.alloc (.cells #[Value.string ⟨#[]⟩, .int .i64 y.t, .int .i64 y.n, .string ⟨y.s.toArray⟩] 60)) (.slice (some ⟨w7.heap.size, 0, none⟩) 1 1) [(⟨[], y, by simp⟩ : Tm)] := IsRows.lit w7 [(⟨[], y, by simp⟩ : Tm)] encsTm (by simp)
          go_wp2_with (at_builtin; refine wpList_own fitsTm encsTm rfl _ _ rfl rfl rfl H11 bX hmr B.size (by omega) (by simp) ?_; intro p9 c9 w9 H9 B9 hG9 hU9)
          have B9' := B.trans B9
          rw [show (ts ++ [(⟨[], y, by simp⟩ : Tm)]).length = ts.length + 1 from by simp] at H9
          go_roundg (nc - (3 + 1))
          case measure => omega
          case rel => exact ⟨3 + 1, ts ++ [(⟨[], y, by simp⟩ : Tm)], by go_num, hlt, Nat.le_refl _, V2, H9, B9'⟩
        · have hinz : ¬ ((3 : Nat) : Int) < (np : Int) := by omega
          have V2 := Lib.hid (show TermsI p (ts ++ [(⟨[88, d], zeroVl, by simp⟩ : Tm)]) ∧ (ts ++ [(⟨[88, d], zeroVl, by simp⟩ : Tm)]).length = 3 + 1 from ⟨V.out.1.push (fun h => absurd h (by rw [V.out.2, HNP.out]; omega)) (fun h => by rw [V.out.2, HDD.out]), by rw [List.length_append, V.out.2]; rfl⟩)
          go_upto_region 12 with fail
          have C7 := Cel.new wr 60 [Value.string ⟨#[88, d]⟩, .int .i64 0, .int .i64 0, Value.string ⟨#[]⟩]
          obtain ⟨w7, hw7⟩ : ∃ z, wr.alloc (.cells #[Value.string ⟨#[88, d]⟩, .int .i64 0, .int .i64 0, Value.string ⟨#[]⟩] 60) = z := ⟨_, rfl⟩
          rw [hw7] at C7
          rw [hw7]
          have b7 : Below wr.heap.size wr w7 := by rw [← hw7]; exact below_new _ _
          clear hw7
          obtain ⟨g7, hg7⟩ : ∃ g, wr.heap.size = g := ⟨_, rfl⟩
          have hg7' := hg7
          rw [hg7] at C7
          rw [hg7]
          clear hg7
          have c0 := C7.at_ (j := 0) rfl
          have c1 := C7.at_ (j := 1) rfl
          have c2 := C7.at_ (j := 2) rfl
          have c3 := C7.at_ (j := 3) rfl
          have bX : Below wr.heap.size wr (w7.alloc (.cells #[Value.string ⟨#[88, d]⟩, .int .i64 0, .int .i64 0, Value.string ⟨#[]⟩] 60)) := b7.trans ((below_new _ _).mono b7.size)
          have hmr : IsRows 4 encTm (w7.alloc (.cells #[Value.string ⟨#[88, d]⟩, .int .i64 0, .int .i64 0, Value.string ⟨#[]⟩] 60)) (.slice (some ⟨w7.heap.size, 0, none⟩) 1 1) [(⟨[88, d], zeroVl, by simp⟩ : Tm)] := IsRows.lit w7 [(⟨[88, d], zeroVl, by simp⟩ : Tm)] encsTm (by simp)
          go_wp2_with (at_builtin; refine wpList_own fitsTm encsTm rfl _ _ rfl rfl rfl H11 bX hmr B.size (by omega) (by simp) ?_; intro p9 c9 w9 H9 B9 hG9 hU9)
          have B9' := B.trans B9
          rw [show (ts ++ [(⟨[88, d], zeroVl, by simp⟩ : Tm)]).length = ts.length + 1 from by simp] at H9
          go_roundg (nc - (3 + 1))
          case measure => omega
          case rel => exact ⟨3 + 1, ts ++ [(⟨[88, d], zeroVl, by simp⟩ : Tm)], by go_num, hlt, Nat.le_refl _, V2, H9, B9'⟩
    · have hltz : ¬ (i : Int) < (nc : Int) := by omega
      obtain rfl : i = nc := by omega
      have HTS := Lib.hid V.out
      have hF0 : IsTerms wr (.slice p11 ts.length c11) ts := H11.is encsTm (by omega)
      have htn := V.out.2
      rw [htn] at hF0
      rw [htn]
      clear htn V H11 hg hlt hi htl
      have bN := B
      clear B
      replace hT := hT.keep bN
      replace ha := ha.keep bN
      replace hp := hp.keep bN
      replace ht := ht.keep bN
      replace CT := CT.keep bN
      replace ct0 := CT.at_ (j := 0) rfl
      replace ct1 := CT.at_ (j := 1) rfl
      replace ct2 := CT.at_ (j := 2) rfl
      replace B1 := below_trans B1 bN
      clear bN
      go_wp2_with fail
      refine (SelectR_any _ _ xs ts _ hT ha hF0 HX.out).mono ?_
      rintro e wS ⟨uS, rfl, zs, RZ, CZ, bN⟩
      have HCZ := Lib.hid CZ
      have SZ := Lib.hid (CZ.sml _ (HX.out.filter _))
      clear CZ
      replace RZ := RZ.rel
      clear hF0
      replace hT := hT.keep bN
      replace ha := ha.keep bN
      replace hp := hp.keep bN
      replace ht := ht.keep bN
      replace CT := CT.keep bN
      replace ct0 := CT.at_ (j := 0) rfl
      replace ct1 := CT.at_ (j := 1) rfl
      replace ct2 := CT.at_ (j := 2) rfl
      replace B1 := below_trans B1 bN
      clear bN
      have HZL := Lib.hid (show ∀ z ∈ zs, z.t.length = i from fun z hz => by rw [pre_len HC.out.1 HC.out.2 HBT.out HTS.out.1 (by rw [HTS.out.2, HNP.out]; exact hnpc) (by rw [HTS.out.2]) HCZ.out z hz]; exact HTS.out.2)
      obtain ⟨pz, cz, rfl, -⟩ := id RZ.shape
      obtain ⟨nz, hnz⟩ : ∃ n, zs.length = n := ⟨_, rfl⟩
      have hzl := SZ.out.len
      rw [hnz] at RZ hzl
      rw [hnz]
      have HNZ := Lib.hid hnz
      clear hnz
      have B0 := below_new wS (.cells #[] 44)
      have H0 : Hold 2 44 encR RowOk noB (wS.alloc (.cells #[] 44)) wS.heap.size (.slice (some ⟨wS.heap.size, 0, none⟩) 0 0) [] := ⟨Owns.lit wS, by simp⟩
      go_upto_region 15 with fail
      obtain ⟨pw, hpw⟩ : ∃ p : Option Addr, some ⟨wS.heap.size, 0, none⟩ = p := ⟨_, rfl⟩
      rw [hpw] at H0
      rw [hpw]
      clear hpw
      obtain ⟨wl, hwl⟩ : ∃ z, wS.alloc (.cells #[] 44) = z := ⟨_, rfl⟩
      rw [hwl] at H0 B0
      rw [hwl]
      clear hwl
      go_wp2
      go_loopg [15, 16] nz (fun g v15 vi wr => ∃ (j : Nat) (L : List RR), vi = .int .i64 j ∧ j ≤ nz ∧ nz - j ≤ g ∧ Hold 2 44 encR RowOk noB wr wS.heap.size v15 L ∧ Hid (rows L = ((rows zs).take j).map (cutW np)) ∧ Below wS.heap.size wS wr)
      case atStart => exact ⟨0, [], rfl, Nat.zero_le _, Nat.le_refl _, H0, Lib.hid rfl, B0⟩
      case round =>
        obtain ⟨j, L, rfl, hj, hg, H, V, B⟩ := hrel
        clear H0 B0
        obtain ⟨p15, c15, rfl⟩ := H.form
        have hLl : L.length ≤ j := by
          have := congrArg List.length V.out
          rw [rows_length, List.length_map, List.length_take] at this
          omega
        by_cases hlt : j < nz
        · have hltz : (j : Int) < (nz : Int) := by omega
          obtain ⟨z, hz⟩ := getElem_of_lt (l := zs) (i := j) (by have := HNZ.out; omega)
          have hzt := HZL.out z (List.mem_of_getElem? hz)
          have HRC := Lib.hid (cutR_ok (k := np) (RZ.2 z (List.mem_of_getElem? hz)) (by omega))
          obtain ⟨b2, o2, e, d0, d1, -⟩ := RZ.at_ hz
          cases e
          replace d0 : wS.cell? ⟨b2, o2 + j * 2, none⟩ = some (.slice z.pa i z.ca) := by rw [← hzt]; exact d0
          have hcv : (cutR np z).av = .slice (cutP z.pa z.ca np) (i - np) (z.ca - np) := by
            show Value.slice _ (z.t.drop np).length _ = _
            rw [List.length_drop, hzt]; rfl
          have V2 := Lib.hid (show rows (L ++ [cutR np z]) = ((rows zs).take (j + 1)).map (cutW np) by
            rw [take_succ' (rows_at hz), List.map_append, ← V.out, rows_append]; rfl)
          have hsl1 := run_from (a := z.pa) (n := i) (c := z.ca) hnpc
          have hsl2 := run_from' (a := z.pa) (n := i) (c := z.ca) hnpc
          have HALL : ∀ W, Below wS.heap.size wS W → (fun w' => w'.cell? ⟨b2, o2 + j * 2, none⟩ = some (.slice z.pa i z.ca) ∧ w'.cell? ⟨b2, o2 + j * 2 + 1, none⟩ = some z.wv) W := fun W hW => ⟨cell_keep hW d0, cell_keep hW d1⟩
          clear hz hzt d0 d1
          go_upto_region 18 with fail
          try simp only [List.append_eq, List.cons_append, List.nil_append]
          refine wp_region_noPanic ?_
          refine wp_region_late (fun w' => w'.cell? ⟨b2, o2 + j * 2, none⟩ = some (.slice z.pa i z.ca) ∧ w'.cell? ⟨b2, o2 + j * 2 + 1, none⟩ = some z.wv) 18 (by kernel_rfl) (HALL _ (B.trans ((Below.refl wr.heap.size wr).drew.mono B.size))) (fun _ => ?_)
          obtain ⟨wd, hwd⟩ : ∃ x : World, wr.drew = x := ⟨_, rfl⟩
          have bD : Below wr.heap.size wr wd := by rw [← hwd]; exact (Below.refl _ _).drew
          rw [hwd]
          clear hwd
          have BD := B.trans (bD.mono B.size)
          have hHeld := HALL _ BD
          have bL := below_new wd (.cells #[.slice (cutP z.pa z.ca np) (i - np) (z.ca - np), z.wv] 44)
          have hm : IsRows 2 encR (wd.alloc (.cells #[.slice (cutP z.pa z.ca np) (i - np) (z.ca - np), z.wv] 44)) (.slice (some ⟨wd.heap.size, 0, none⟩) 1 1) [cutR np z] := by
            have := IsRows.lit (e := 44) wd [cutR np z] encsR (by simp)
            have ee : [cutR np z].flatMap encR = [.slice (cutP z.pa z.ca np) (i - np) (z.ca - np), z.wv] := by
              show [(cutR np z).av, (cutR np z).wv] = _
              rw [hcv]
              rfl
            rw [ee] at this
            exact this
          have hmo : ∀ u ∈ [cutR np z], Off RowOk (wd.alloc (.cells #[.slice (cutP z.pa z.ca np) (i - np) (z.ca - np), z.wv] 44)) (Ex (.slice p15 L.length c15) noB) u := H.offs' (fun u hu => by rw [List.mem_singleton.1 hu]; exact HRC.out) (B.trans ((bD.trans (bL.mono bD.size)).mono B.size)) rfl
          refine any_take (by kernel_rfl) (i := 0) (oi := _) (v := ?_) rfl rfl (by kernel_rfl) (by kernel_rfl) (by kernel_rfl) (fun _ _ _ h => h) (Or.inl ⟨by rfl, ?_⟩) hHeld ?_
          rotate_left
          · intro w' hSw; try dsimp only at hSw
            go_simp
            try with_reducible rfl
          try simp only [puts, gets]
          refine any_take (by kernel_rfl) (i := 1) (oi := _) (v := ?_) rfl rfl (by kernel_rfl) (by kernel_rfl) (by kernel_rfl) (fun _ _ _ h => h) (Or.inl ⟨by rfl, ?_⟩) hHeld ?_
          rotate_left
          · intro w' hSw; try dsimp only at hSw
            go_simp
            try with_reducible rfl
          try simp only [puts, gets]
          refine any_take (by kernel_rfl) (i := 2) (oi := _) (v := ?_) rfl rfl (by kernel_rfl) (by kernel_rfl) (by kernel_rfl) (fun _ _ _ h => h) (Or.inl ⟨by rfl, ?_⟩) hHeld ?_
          rotate_left
          · intro w' hSw; try dsimp only at hSw
            go_simp
            try with_reducible rfl
          try simp only [puts, gets]
          refine any_take (by kernel_rfl) (i := 3) (oi := _) (v := ?_) rfl rfl (by kernel_rfl) (by kernel_rfl) (by kernel_rfl) (fun _ _ _ h => h) (Or.inl ⟨by rfl, ?_⟩) hHeld ?_
          rotate_left
          · intro w' hSw; try dsimp only at hSw
            go_simp
            try with_reducible rfl
          try simp only [puts, gets]
          refine any_take (by kernel_rfl) (i := 4) (oi := _) (v := ?_) rfl rfl (by kernel_rfl) (by kernel_rfl) (by kernel_rfl) (fun _ _ _ h => h) (Or.inl ⟨by rfl, ?_⟩) hHeld ?_
          rotate_left
          · intro w' hSw; try dsimp only at hSw
            go_simp
            try with_reducible rfl
          try simp only [puts, gets]
          refine any_take (by kernel_rfl) (i := 5) (oi := _) (v := ?_) rfl rfl (by kernel_rfl) (by kernel_rfl) (by kernel_rfl) (fun _ _ _ h => h) (Or.inl ⟨by rfl, ?_⟩) hHeld ?_
          rotate_left
          · intro w' hSw; try dsimp only at hSw
            go_simp
            try with_reducible rfl
          try simp only [puts, gets]
          refine any_take (by kernel_rfl) (i := 6) (oi := _) (v := ?_) rfl rfl (by kernel_rfl) (by kernel_rfl) (by kernel_rfl) (fun _ _ _ h => h) (Or.inl ⟨by rfl, ?_⟩) hHeld ?_
          rotate_left
          · intro w' hSw; try dsimp only at hSw
            go_simp
            try with_reducible rfl
          try simp only [puts, gets]
          refine any_take (by kernel_rfl) (i := 7) (oi := _) (v := ?_) rfl rfl (by kernel_rfl) (by kernel_rfl) (by kernel_rfl) (fun _ _ _ h => h) (Or.inl ⟨by rfl, ?_⟩) hHeld ?_
          rotate_left
          · intro w' hSw; try dsimp only at hSw
            go_simp
            try with_reducible rfl
          try simp only [puts, gets]
          refine any_take (by kernel_rfl) (i := 8) (oi := _) (v := ?_) rfl rfl (by kernel_rfl) (by kernel_rfl) (by kernel_rfl) (fun _ _ _ h => h) (Or.inl ⟨by rfl, ?_⟩) hHeld ?_
          rotate_left
          · intro w' hSw; try dsimp only at hSw
            go_simp
            try with_reducible rfl
          try simp only [puts, gets]
          refine any_take (by kernel_rfl) (i := 9) (oi := _) (v := ?_) rfl rfl (by kernel_rfl) (by kernel_rfl) (by kernel_rfl) (fun _ _ _ h => h) (Or.inl ⟨by rfl, ?_⟩) hHeld ?_
          rotate_left
          · intro w' hSw; try dsimp only at hSw
            go_simp
            try with_reducible rfl
          try simp only [puts, gets]
          refine any_take (by kernel_rfl) (i := 10) (oi := _) (v := ?_) rfl rfl (by kernel_rfl) (by kernel_rfl) (by kernel_rfl) (fun _ _ _ h => h) (Or.inl ⟨by rfl, ?_⟩) hHeld ?_
          rotate_left
          · intro w' hSw; try dsimp only at hSw
            go_simp
            try with_reducible rfl
          try simp only [puts, gets]
          refine any_take (by kernel_rfl) (i := 11) (oi := _) (v := ?_) rfl rfl (by kernel_rfl) (by kernel_rfl) (by kernel_rfl) (fun _ _ _ h => h) (Or.inl ⟨by rfl, ?_⟩) hHeld ?_
          rotate_left
          · intro w' hSw; try dsimp only at hSw
            go_simp
            try with_reducible rfl
          try simp only [puts, gets]
          refine any_take (by kernel_rfl) (i := 12) (oi := _) (v := ?_) rfl rfl (by kernel_rfl) (by kernel_rfl) (by kernel_rfl) (fun _ _ _ h => h) (Or.inl ⟨by rfl, ?_⟩) hHeld ?_
          rotate_left
          · intro w' hSw; try dsimp only at hSw
            go_simp
            try with_reducible rfl
          try simp only [puts, gets]
          refine any_take (by kernel_rfl) (i := 13) (oi := _) (v := ?_) rfl rfl (by kernel_rfl) (by kernel_rfl) (by kernel_rfl) (fun _ _ _ h => h) (Or.inl ⟨by rfl, ?_⟩) hHeld ?_
          rotate_left
          · intro w' hSw; try dsimp only at hSw
            go_simp
            try with_reducible rfl
          try simp only [puts, gets]
          refine any_take (by kernel_rfl) (i := 14) (oi := _) (v := ?_) rfl rfl (by kernel_rfl) (by kernel_rfl) (by kernel_rfl) (fun _ _ _ h => h) (Or.inl ⟨by rfl, ?_⟩) hHeld ?_
          rotate_left
          · intro w' hSw; try dsimp only at hSw
            go_simp
            try with_reducible rfl
          try simp only [puts, gets]
          refine any_next (i := 15) (by kernel_rfl) rfl rfl (fun K hK => ?_)
          go_simp
          refine hK.out _ _ ?_ (fun hHeld => ?_)
          · exact HALL _ (BD.trans (bL.mono BD.size))
          clear hK K
          try simp only [puts, gets]
          refine any_next (i := 16) (by kernel_rfl) rfl rfl (fun K hK => ?_)
          refine step_holdU (wr := wr) (v := .slice p15 L.length c15) fitsR24 encsR (by rfl) (.tmp 81) (.tmp 96) (by rfl) (by rfl) (by rfl) H (bD.trans (bL.mono bD.size)) hm hmo B.size (by omega) (by simp) ?_
          intro p10 c10 w10 H10 B10 hG10 hU10
          rw [show (L ++ [cutR np z]).length = L.length + 1 from by simp] at H10
          rw [show (L ++ [cutR np z]).length = L.length + 1 from by simp]
          have B11 := B.trans B10
          refine hK.out _ _ ?_ (fun hHeld => ?_)
          · exact HALL _ B11
          clear hK K
          try simp only [puts, gets]
          refine any_take (by kernel_rfl) (i := 17) (oi := _) (v := ?_) rfl rfl (by kernel_rfl) (by kernel_rfl) (by kernel_rfl) (fun _ _ _ h => h) (Or.inl ⟨by rfl, ?_⟩) hHeld ?_
          rotate_left
          · intro w' hSw; try dsimp only at hSw
            go_simp
            try with_reducible rfl
          try simp only [puts, gets]
          refine any_done (by kernel_rfl) ?_ _
          refine NoPanic.normal ?_
          have B12 := B11
          clear hG10 hU10 hm hmo bL bD hHeld HALL hsl1 hsl2 B10 BD
          go_wp2
          go_roundg (nz - (j + 1))
          case measure => omega
          case rel => exact ⟨j + 1, L ++ [cutR np z], by go_num, hlt, Nat.le_refl _, H10, V2, B12⟩
        · have hltz : ¬ (j : Int) < (nz : Int) := by omega
          have HRL := Lib.hid (show rows L = (rows zs).map (cutW np) by
            have := V.out
            rwa [List.take_of_length_le (by rw [rows_length, HNZ.out]; omega)] at this)
          have hLz : L.length = nz := by
            have := congrArg List.length HRL.out
            rw [rows_length, List.length_map, rows_length, HNZ.out] at this
            exact this
          have RL := H.rel (by omega)
          rw [hLz] at RL
          rw [hLz]
          clear H V hg hj hLl RZ
          have bN := B
          clear B
          replace hT := hT.keep bN
          replace ha := ha.keep bN
          replace hp := hp.keep bN
          replace ht := ht.keep bN
          replace CT := CT.keep bN
          replace ct0 := CT.at_ (j := 0) rfl
          replace ct1 := CT.at_ (j := 1) rfl
          replace ct2 := CT.at_ (j := 2) rfl
          replace B1 := below_trans B1 bN
          clear bN
          have hSB := fun W h1 h2 => SubD_any t (.slice pp np pc) p W h1 HQT.out h2
          unfold SubRetD trV at hSB
          go_wp2_with fail
          refine (hSB _ ht hp).mono ?_
          rintro e wx ⟨x, ok, rfl, hx, hxq, HSX, -, bN⟩
          clear hSB hxq
          replace hT := hT.keep bN
          replace ha := ha.keep bN
          replace hp := hp.keep bN
          replace ht := ht.keep bN
          replace RL := RL.keep bN
          replace CT := CT.keep bN
          replace ct0 := CT.at_ (j := 0) rfl
          replace ct1 := CT.at_ (j := 1) rfl
          replace ct2 := CT.at_ (j := 2) rfl
          replace B1 := below_trans B1 bN
          clear bN
          have CX := Cel.new wx 64 [x.vv, x.kv, x.wv]
          have bN := below_new wx (.cells #[x.vv, x.kv, x.wv] 64)
          go_upto_region 20 with fail
          obtain ⟨wb17, hw⟩ : ∃ zz, wx.alloc (.cells #[x.vv, x.kv, x.wv] 64) = zz := ⟨_, rfl⟩
          replace CX : Cel wb17 wx.heap.size 64 [x.vv, x.kv, x.wv] := by rw [← hw]; exact CX
          rw [hw] at bN
          try rw [hw]
          clear hw
          obtain ⟨b17, hb⟩ : ∃ g, wx.heap.size = g := ⟨_, rfl⟩
          rw [hb] at CX
          try rw [hb]
          clear hb
          replace hT := hT.keep bN
          replace ha := ha.keep bN
          replace hp := hp.keep bN
          replace ht := ht.keep bN
          replace RL := RL.keep bN
          replace hx := hx.keep bN
          replace CT := CT.keep bN
          replace ct0 := CT.at_ (j := 0) rfl
          replace ct1 := CT.at_ (j := 1) rfl
          replace ct2 := CT.at_ (j := 2) rfl
          replace B1 := below_trans B1 bN
          clear bN
          have cx0 := CX.at_ (j := 0) rfl
          have cx1 := CX.at_ (j := 1) rfl
          have cx2 := CX.at_ (j := 2) rfl
          obtain ⟨k, hk⟩ : ∃ k, cn % (np + 1) = k := ⟨_, rfl⟩
          have hkn : k ≤ np := by rw [← hk]; have := Nat.mod_lt cn (show 0 < np + 1 by omega); omega
          have hmod : ((cn : Nat) : Int).tmod ((np : Int) + 1) = (k : Int) := by rw [← hk]; rfl
          have hmo0 : (((np : Int) + 1) == 0) = false := by rw [beq_eq_false_iff_ne]; omega
          have hmo1 : ¬ ((np : Int) + 1 = 0) := by omega
          have hcw : IntKind.i64.wrap ((cn : Nat) : Int) = (cn : Int) := by rw [IntKind.wrap_i64]; omega
          have hkw : IntKind.i64.wrap ((k : Nat) : Int) = (k : Int) := by rw [IntKind.wrap_i64]; omega
          have hnw : IntKind.i64.wrap ((np : Int) + 1) = (np : Int) + 1 := by rw [IntKind.wrap_i64]; omega
          clear hk
          go_upto_region 21 with fail
          clear hmod hmo0 hmo1 hcw hnw hkw
          have hvt := vals_take hp hkn
          have hs1 := run_till (a := pp) (n := np) (c := pc) (k := k) (by omega)
          have hs2 := run_till' (a := pp) (n := np) (c := pc) (k := k) (by omega)
          go_cut [20, 21] from 110 to 117 (fun v20 v21 wx => ∃ (g : Nat) (fx : TR) (is : Bool), v20 = .pointer (some ⟨g, 0, none⟩) ∧ v21 = .bool is ∧ Cel wx g 64 [fx.vv, fx.kv, fx.wv] ∧ TrOk wx fx ∧ Sq fx.tr ∧ Hid (SubI (p.take k) t.tr (if is then some fx.tr else none) ∧ (is = false → fx = noTr)) ∧ Below wb17.heap.size wb17 wx)
          case first =>
            have HALL : ∀ W, Below wb17.heap.size wb17 W → (fun w' => w'.cell? ⟨b10, 0, none⟩ = some t.vv ∧ w'.cell? ⟨b10, 1, none⟩ = some t.kv ∧ w'.cell? ⟨b10, 2, none⟩ = some t.wv) W := fun W hW => ⟨cell_keep hW ct0, cell_keep hW ct1, cell_keep hW ct2⟩
            have hSB := fun W h1 h2 => SubD_any t (.slice pp k pc) (p.take k) W h1 HQT.out h2
            unfold SubRetD trV at hSB
            have hsrc := ht
            have hq := hvt
            try simp only [List.append_eq, List.cons_append, List.nil_append]
            refine wp_region_noPanic ?_
            refine wp_region_late (fun w' => w'.cell? ⟨b10, 0, none⟩ = some t.vv ∧ w'.cell? ⟨b10, 1, none⟩ = some t.kv ∧ w'.cell? ⟨b10, 2, none⟩ = some t.wv) 11 (by kernel_rfl) (HALL _ (Below.refl _ _).drew) (fun _ => ?_)
            obtain ⟨wd, hwd⟩ : ∃ x : World, wb17.drew = x := ⟨_, rfl⟩
            have bD : Below wb17.heap.size wb17 wd := by rw [← hwd]; exact (Below.refl _ _).drew
            rw [hwd]
            clear hwd
            have hHeld := HALL _ bD
            refine any_take (by kernel_rfl) (i := 0) (oi := _) (v := ?_) rfl rfl (by kernel_rfl) (by kernel_rfl) (by kernel_rfl) (fun _ _ _ h => h) (Or.inl ⟨by rfl, ?_⟩) hHeld ?_
            rotate_left
            · intro w' hSw; try dsimp only at hSw
              go_simp
              try with_reducible rfl
            try simp only [puts, gets]
            refine any_take (by kernel_rfl) (i := 1) (oi := _) (v := ?_) rfl rfl (by kernel_rfl) (by kernel_rfl) (by kernel_rfl) (fun _ _ _ h => h) (Or.inl ⟨by rfl, ?_⟩) hHeld ?_
            rotate_left
            · intro w' hSw; try dsimp only at hSw
              go_simp
              try with_reducible rfl
            try simp only [puts, gets]
            refine any_take (by kernel_rfl) (i := 2) (oi := _) (v := ?_) rfl rfl (by kernel_rfl) (by kernel_rfl) (by kernel_rfl) (fun _ _ _ h => h) (Or.inl ⟨by rfl, ?_⟩) hHeld ?_
            rotate_left
            · intro w' hSw; try dsimp only at hSw
              go_simp
              try with_reducible rfl
            try simp only [puts, gets]
            refine any_take (by kernel_rfl) (i := 3) (oi := _) (v := ?_) rfl rfl (by kernel_rfl) (by kernel_rfl) (by kernel_rfl) (fun _ _ _ h => h) (Or.inl ⟨by rfl, ?_⟩) hHeld ?_
            rotate_left
            · intro w' hSw; try dsimp only at hSw
              go_simp
              try with_reducible rfl
            try simp only [puts, gets]
            refine any_two (i := 4) (j := 8) (by kernel_rfl) rfl rfl rfl rfl (fun K hK => ?_) (fun K hK => ?_)
            · go_simp
              go_at_call 54
              refine (hSB _ (hsrc.keep bD) (hq.keep bD)).mono ?_
              rintro e wq ⟨fx, is, rfl, hx1, hx1q, HS1, HD1, bC⟩
              replace bD := below_trans bD bC
              clear bC hx1
              refine hK.out _ _ ?_ (fun hHeld => ?_)
              · exact HALL _ bD
              clear hK K
              try simp only [puts, gets]
              refine any_take (by kernel_rfl) (i := 5) (oi := _) (v := ?_) rfl rfl (by kernel_rfl) (by kernel_rfl) (by kernel_rfl) (fun _ _ _ h => h) (Or.inl ⟨by rfl, ?_⟩) hHeld ?_
              rotate_left
              · intro w' hSw; try dsimp only at hSw
                go_simp
                try with_reducible rfl
              try simp only [puts, gets]
              refine any_take (by kernel_rfl) (i := 6) (oi := _) (v := ?_) rfl rfl (by kernel_rfl) (by kernel_rfl) (by kernel_rfl) (fun _ _ _ h => h) (Or.inl ⟨by rfl, ?_⟩) hHeld ?_
              rotate_left
              · intro w' hSw; try dsimp only at hSw
                go_simp
                try with_reducible rfl
              try simp only [puts, gets]
              refine any_take (by kernel_rfl) (i := 7) (oi := _) (v := ?_) rfl rfl (by kernel_rfl) (by kernel_rfl) (by kernel_rfl) (fun _ _ _ h => h) (Or.inl ⟨by rfl, ?_⟩) hHeld ?_
              rotate_left
              · intro w' hSw; try dsimp only at hSw
                go_simp
                try with_reducible rfl
              try simp only [puts, gets]
              refine any_next (i := 8) (by kernel_rfl) rfl rfl (fun K hK => ?_)
              have bX := below_new wq (.cells #[.slice none 0 0, .slice none 0 0, .slice none 0 0] 64)
              have C := Cel.new wq 64 [.slice none 0 0, .slice none 0 0, .slice none 0 0]
              have hgl : wb17.heap.size ≤ wq.heap.size := bD.size
              go_simp
              replace bD := bD.trans (bX.mono bD.size)
              clear bX
              obtain ⟨wn, hwn⟩ : ∃ z : World, z = wq.alloc (.cells #[.slice none 0 0, .slice none 0 0, .slice none 0 0] 64) := ⟨_, rfl⟩
              rw [← hwn] at bD C
              rw [← hwn]
              obtain ⟨g, hge⟩ : ∃ g, wq.heap.size = g := ⟨_, rfl⟩
              rw [hge] at C hgl
              rw [hge]
              clear hge hwn
              refine hK.out _ _ ?_ (fun hHeld => ?_)
              · exact HALL _ bD
              clear hK K
              try simp only [puts, gets]
              refine any_next (i := 9) (by kernel_rfl) rfl rfl (fun K hK => ?_)
              have x0 := C.at_ (j := 0) rfl
              have x1 := C.at_ (j := 1) rfl
              have x2 := C.at_ (j := 2) rfl
              have e0 := C.free 0
              have e1 := C.free 1
              have e2 := C.free 2
              have Y := ((C.set 0 fx.vv).set 1 fx.kv).set 2 fx.wv
              have BY := ((bD.setCell (p := ⟨g, 0, none⟩) hgl fx.vv).setCell (p := ⟨g, 1, none⟩) hgl fx.kv).setCell (p := ⟨g, 2, none⟩) hgl fx.wv
              go_simp
              obtain ⟨wZ, hwZ⟩ : ∃ z : World, z = ((wn.setCell ⟨g, 0, none⟩ fx.vv).setCell ⟨g, 1, none⟩ fx.kv).setCell ⟨g, 2, none⟩ fx.wv := ⟨_, rfl⟩
              rw [← hwZ] at Y BY
              try rw [← hwZ]
              clear hwZ x0 x1 x2 e0 e1 e2
              refine hK.out _ _ ?_ (fun hHeld => ?_)
              · exact HALL _ BY
              clear hK K
              try simp only [puts, gets]
              refine any_take (by kernel_rfl) (i := 10) (oi := _) (v := ?_) rfl rfl (by kernel_rfl) (by kernel_rfl) (by kernel_rfl) (fun _ _ _ h => h) (Or.inl ⟨by rfl, ?_⟩) hHeld ?_
              rotate_left
              · intro w' hSw; try dsimp only at hSw
                go_simp
                try with_reducible rfl
              try simp only [puts, gets]
              refine any_done (by kernel_rfl) ?_ _
              refine NoPanic.normal ?_
              go_wp2
              go_meet
              case rel => exact ⟨g, fx, is, rfl, rfl, Y, HD1.out _ (hsrc.keep BY), hx1q, HS1, BY⟩
            · have bX := below_new wd (.cells #[.slice none 0 0, .slice none 0 0, .slice none 0 0] 64)
              have C := Cel.new wd 64 [.slice none 0 0, .slice none 0 0, .slice none 0 0]
              have hgl : wb17.heap.size ≤ wd.heap.size := bD.size
              go_simp
              replace bD := bD.trans (bX.mono bD.size)
              clear bX
              obtain ⟨wn, hwn⟩ : ∃ z : World, z = wd.alloc (.cells #[.slice none 0 0, .slice none 0 0, .slice none 0 0] 64) := ⟨_, rfl⟩
              rw [← hwn] at bD C
              rw [← hwn]
              obtain ⟨g, hge⟩ : ∃ g, wd.heap.size = g := ⟨_, rfl⟩
              rw [hge] at C hgl
              rw [hge]
              clear hge hwn
              refine hK.out _ _ ?_ (fun hHeld => ?_)
              · exact HALL _ bD
              clear hK K
              try simp only [puts, gets]
              refine any_next (i := 4) (by kernel_rfl) rfl rfl (fun K hK => ?_)
              go_simp
              go_at_call 54
              refine (hSB _ (hsrc.keep bD) (hq.keep bD)).mono ?_
              rintro e wq ⟨fx, is, rfl, hx1, hx1q, HS1, HD1, bC⟩
              replace bD := below_trans bD bC
              replace C := C.keep bC
              clear bC hx1
              refine hK.out _ _ ?_ (fun hHeld => ?_)
              · exact HALL _ bD
              clear hK K
              try simp only [puts, gets]
              refine any_take (by kernel_rfl) (i := 5) (oi := _) (v := ?_) rfl rfl (by kernel_rfl) (by kernel_rfl) (by kernel_rfl) (fun _ _ _ h => h) (Or.inl ⟨by rfl, ?_⟩) hHeld ?_
              rotate_left
              · intro w' hSw; try dsimp only at hSw
                go_simp
                try with_reducible rfl
              try simp only [puts, gets]
              refine any_take (by kernel_rfl) (i := 6) (oi := _) (v := ?_) rfl rfl (by kernel_rfl) (by kernel_rfl) (by kernel_rfl) (fun _ _ _ h => h) (Or.inl ⟨by rfl, ?_⟩) hHeld ?_
              rotate_left
              · intro w' hSw; try dsimp only at hSw
                go_simp
                try with_reducible rfl
              try simp only [puts, gets]
              refine any_take (by kernel_rfl) (i := 7) (oi := _) (v := ?_) rfl rfl (by kernel_rfl) (by kernel_rfl) (by kernel_rfl) (fun _ _ _ h => h) (Or.inl ⟨by rfl, ?_⟩) hHeld ?_
              rotate_left
              · intro w' hSw; try dsimp only at hSw
                go_simp
                try with_reducible rfl
              try simp only [puts, gets]
              refine any_next (i := 9) (by kernel_rfl) rfl rfl (fun K hK => ?_)
              have x0 := C.at_ (j := 0) rfl
              have x1 := C.at_ (j := 1) rfl
              have x2 := C.at_ (j := 2) rfl
              have e0 := C.free 0
              have e1 := C.free 1
              have e2 := C.free 2
              have Y := ((C.set 0 fx.vv).set 1 fx.kv).set 2 fx.wv
              have BY := ((bD.setCell (p := ⟨g, 0, none⟩) hgl fx.vv).setCell (p := ⟨g, 1, none⟩) hgl fx.kv).setCell (p := ⟨g, 2, none⟩) hgl fx.wv
              go_simp
              obtain ⟨wZ, hwZ⟩ : ∃ z : World, z = ((wq.setCell ⟨g, 0, none⟩ fx.vv).setCell ⟨g, 1, none⟩ fx.kv).setCell ⟨g, 2, none⟩ fx.wv := ⟨_, rfl⟩
              rw [← hwZ] at Y BY
              try rw [← hwZ]
              clear hwZ x0 x1 x2 e0 e1 e2
              refine hK.out _ _ ?_ (fun hHeld => ?_)
              · exact HALL _ BY
              clear hK K
              try simp only [puts, gets]
              refine any_take (by kernel_rfl) (i := 10) (oi := _) (v := ?_) rfl rfl (by kernel_rfl) (by kernel_rfl) (by kernel_rfl) (fun _ _ _ h => h) (Or.inl ⟨by rfl, ?_⟩) hHeld ?_
              rotate_left
              · intro w' hSw; try dsimp only at hSw
                go_simp
                try with_reducible rfl
              try simp only [puts, gets]
              refine any_done (by kernel_rfl) ?_ _
              refine NoPanic.normal ?_
              go_wp2
              go_meet
              case rel => exact ⟨g, fx, is, rfl, rfl, Y, HD1.out _ (hsrc.keep BY), hx1q, HS1, BY⟩
          case rest =>
            obtain ⟨b20, f1, is, rfl, rfl, CF, hf1, hfq, HSF, BF⟩ := hcut
            have bN := BF
            clear BF hvt hs1 hs2
            have HFQ := Lib.hid hfq
            clear hfq
            obtain ⟨wg, hwg⟩ : ∃ zz, zz = wc := ⟨_, rfl⟩
            rw [← hwg] at bN CF hf1
            rw [← hwg]
            clear hwg
            replace hT := hT.keep bN
            replace ha := ha.keep bN
            replace hp := hp.keep bN
            replace ht := ht.keep bN
            replace RL := RL.keep bN
            replace hx := hx.keep bN
            replace CT := CT.keep bN
            replace ct0 := CT.at_ (j := 0) rfl
            replace ct1 := CT.at_ (j := 1) rfl
            replace ct2 := CT.at_ (j := 2) rfl
            replace CX := CX.keep bN
            replace cx0 := CX.at_ (j := 0) rfl
            replace cx1 := CX.at_ (j := 1) rfl
            replace cx2 := CX.at_ (j := 2) rfl
            replace B1 := below_trans B1 bN
            clear bN
            have cf0 := CF.at_ (j := 0) rfl
            have cf1 := CF.at_ (j := 1) rfl
            have cf2 := CF.at_ (j := 2) rfl
            have hvt := vals_drop hp hkn
            have hs1 := run_from (a := pp) (n := np) (c := pc) hkn
            have hs2 := run_from' (a := pp) (n := np) (c := pc) hkn
            go_upto_region 22 with fail
            go_cut [22, 23] from 118 to 125 (fun v22 v23 wx => ∃ (g : Nat) (fx : TR) (is2 : Bool), v22 = .pointer (some ⟨g, 0, none⟩) ∧ v23 = .bool is2 ∧ Cel wx g 64 [fx.vv, fx.kv, fx.wv] ∧ TrOk wx fx ∧ Sq fx.tr ∧ Hid (SubI (p.drop k) f1.tr (if is2 then some fx.tr else none) ∧ (is2 = false → fx = noTr)) ∧ Below wg.heap.size wg wx)
            case first =>
              have HALL : ∀ W, Below wg.heap.size wg W → (fun w' => w'.cell? ⟨b20, 0, none⟩ = some f1.vv ∧ w'.cell? ⟨b20, 1, none⟩ = some f1.kv ∧ w'.cell? ⟨b20, 2, none⟩ = some f1.wv) W := fun W hW => ⟨cell_keep hW cf0, cell_keep hW cf1, cell_keep hW cf2⟩
              have hSB := fun W h1 h2 => SubD_any f1 (.slice (cutP pp pc k) (np - k) (pc - k)) (p.drop k) W h1 HFQ.out h2
              unfold SubRetD trV at hSB
              have hsrc := hf1
              have hq := hvt
              try simp only [List.append_eq, List.cons_append, List.nil_append]
              refine wp_region_noPanic ?_
              refine wp_region_late (fun w' => w'.cell? ⟨b20, 0, none⟩ = some f1.vv ∧ w'.cell? ⟨b20, 1, none⟩ = some f1.kv ∧ w'.cell? ⟨b20, 2, none⟩ = some f1.wv) 11 (by kernel_rfl) (HALL _ (Below.refl _ _).drew) (fun _ => ?_)
              obtain ⟨wd, hwd⟩ : ∃ x : World, wg.drew = x := ⟨_, rfl⟩
              have bD : Below wg.heap.size wg wd := by rw [← hwd]; exact (Below.refl _ _).drew
              rw [hwd]
              clear hwd
              have hHeld := HALL _ bD
              refine any_take (by kernel_rfl) (i := 0) (oi := _) (v := ?_) rfl rfl (by kernel_rfl) (by kernel_rfl) (by kernel_rfl) (fun _ _ _ h => h) (Or.inl ⟨by rfl, ?_⟩) hHeld ?_
              rotate_left
              · intro w' hSw; try dsimp only at hSw
                go_simp
                try with_reducible rfl
              try simp only [puts, gets]
              refine any_take (by kernel_rfl) (i := 1) (oi := _) (v := ?_) rfl rfl (by kernel_rfl) (by kernel_rfl) (by kernel_rfl) (fun _ _ _ h => h) (Or.inl ⟨by rfl, ?_⟩) hHeld ?_
              rotate_left
              · intro w' hSw; try dsimp only at hSw
                go_simp
                try with_reducible rfl
              try simp only [puts, gets]
              refine any_take (by kernel_rfl) (i := 2) (oi := _) (v := ?_) rfl rfl (by kernel_rfl) (by kernel_rfl) (by kernel_rfl) (fun _ _ _ h => h) (Or.inl ⟨by rfl, ?_⟩) hHeld ?_
              rotate_left
              · intro w' hSw; try dsimp only at hSw
                go_simp
                try with_reducible rfl
              try simp only [puts, gets]
              refine any_take (by kernel_rfl) (i := 3) (oi := _) (v := ?_) rfl rfl (by kernel_rfl) (by kernel_rfl) (by kernel_rfl) (fun _ _ _ h => h) (Or.inl ⟨by rfl, ?_⟩) hHeld ?_
              rotate_left
              · intro w' hSw; try dsimp only at hSw
                go_simp
                try with_reducible rfl
              try simp only [puts, gets]
              refine any_two (i := 4) (j := 8) (by kernel_rfl) rfl rfl rfl rfl (fun K hK => ?_) (fun K hK => ?_)
              · go_simp
                go_at_call 54
                refine (hSB _ (hsrc.keep bD) (hq.keep bD)).mono ?_
                rintro e wq ⟨fx, is2, rfl, hx1, hx1q, HS1, HD1, bC⟩
                replace bD := below_trans bD bC
                clear bC hx1
                refine hK.out _ _ ?_ (fun hHeld => ?_)
                · exact HALL _ bD
                clear hK K
                try simp only [puts, gets]
                refine any_take (by kernel_rfl) (i := 5) (oi := _) (v := ?_) rfl rfl (by kernel_rfl) (by kernel_rfl) (by kernel_rfl) (fun _ _ _ h => h) (Or.inl ⟨by rfl, ?_⟩) hHeld ?_
                rotate_left
                · intro w' hSw; try dsimp only at hSw
                  go_simp
                  try with_reducible rfl
                try simp only [puts, gets]
                refine any_take (by kernel_rfl) (i := 6) (oi := _) (v := ?_) rfl rfl (by kernel_rfl) (by kernel_rfl) (by kernel_rfl) (fun _ _ _ h => h) (Or.inl ⟨by rfl, ?_⟩) hHeld ?_
                rotate_left
                · intro w' hSw; try dsimp only at hSw
                  go_simp
                  try with_reducible rfl
                try simp only [puts, gets]
                refine any_take (by kernel_rfl) (i := 7) (oi := _) (v := ?_) rfl rfl (by kernel_rfl) (by kernel_rfl) (by kernel_rfl) (fun _ _ _ h => h) (Or.inl ⟨by rfl, ?_⟩) hHeld ?_
                rotate_left
                · intro w' hSw; try dsimp only at hSw
                  go_simp
                  try with_reducible rfl
                try simp only [puts, gets]
                refine any_next (i := 8) (by kernel_rfl) rfl rfl (fun K hK => ?_)
                have bX := below_new wq (.cells #[.slice none 0 0, .slice none 0 0, .slice none 0 0] 64)
                have C := Cel.new wq 64 [.slice none 0 0, .slice none 0 0, .slice none 0 0]
                have hgl : wg.heap.size ≤ wq.heap.size := bD.size
                go_simp
                replace bD := bD.trans (bX.mono bD.size)
                clear bX
                obtain ⟨wn, hwn⟩ : ∃ z : World, z = wq.alloc (.cells #[.slice none 0 0, .slice none 0 0, .slice none 0 0] 64) := ⟨_, rfl⟩
                rw [← hwn] at bD C
                rw [← hwn]
                obtain ⟨g, hge⟩ : ∃ g, wq.heap.size = g := ⟨_, rfl⟩
                rw [hge] at C hgl
                rw [hge]
                clear hge hwn
                refine hK.out _ _ ?_ (fun hHeld => ?_)
                · exact HALL _ bD
                clear hK K
                try simp only [puts, gets]
                refine any_next (i := 9) (by kernel_rfl) rfl rfl (fun K hK => ?_)
                have x0 := C.at_ (j := 0) rfl
                have x1 := C.at_ (j := 1) rfl
                have x2 := C.at_ (j := 2) rfl
                have e0 := C.free 0
                have e1 := C.free 1
                have e2 := C.free 2
                have Y := ((C.set 0 fx.vv).set 1 fx.kv).set 2 fx.wv
                have BY := ((bD.setCell (p := ⟨g, 0, none⟩) hgl fx.vv).setCell (p := ⟨g, 1, none⟩) hgl fx.kv).setCell (p := ⟨g, 2, none⟩) hgl fx.wv
                go_simp
                obtain ⟨wZ, hwZ⟩ : ∃ z : World, z = ((wn.setCell ⟨g, 0, none⟩ fx.vv).setCell ⟨g, 1, none⟩ fx.kv).setCell ⟨g, 2, none⟩ fx.wv := ⟨_, rfl⟩
                rw [← hwZ] at Y BY
                try rw [← hwZ]
                clear hwZ x0 x1 x2 e0 e1 e2
                refine hK.out _ _ ?_ (fun hHeld => ?_)
                · exact HALL _ BY
                clear hK K
                try simp only [puts, gets]
                refine any_take (by kernel_rfl) (i := 10) (oi := _) (v := ?_) rfl rfl (by kernel_rfl) (by kernel_rfl) (by kernel_rfl) (fun _ _ _ h => h) (Or.inl ⟨by rfl, ?_⟩) hHeld ?_
                rotate_left
                · intro w' hSw; try dsimp only at hSw
                  go_simp
                  try with_reducible rfl
                try simp only [puts, gets]
                refine any_done (by kernel_rfl) ?_ _
                refine NoPanic.normal ?_
                go_wp2
                go_meet
                case rel => exact ⟨g, fx, is2, rfl, rfl, Y, HD1.out _ (hsrc.keep BY), hx1q, HS1, BY⟩
              · have bX := below_new wd (.cells #[.slice none 0 0, .slice none 0 0, .slice none 0 0] 64)
                have C := Cel.new wd 64 [.slice none 0 0, .slice none 0 0, .slice none 0 0]
                have hgl : wg.heap.size ≤ wd.heap.size := bD.size
                go_simp
                replace bD := bD.trans (bX.mono bD.size)
                clear bX
                obtain ⟨wn, hwn⟩ : ∃ z : World, z = wd.alloc (.cells #[.slice none 0 0, .slice none 0 0, .slice none 0 0] 64) := ⟨_, rfl⟩
                rw [← hwn] at bD C
                rw [← hwn]
                obtain ⟨g, hge⟩ : ∃ g, wd.heap.size = g := ⟨_, rfl⟩
                rw [hge] at C hgl
                rw [hge]
                clear hge hwn
                refine hK.out _ _ ?_ (fun hHeld => ?_)
                · exact HALL _ bD
                clear hK K
                try simp only [puts, gets]
                refine any_next (i := 4) (by kernel_rfl) rfl rfl (fun K hK => ?_)
                go_simp
                go_at_call 54
                refine (hSB _ (hsrc.keep bD) (hq.keep bD)).mono ?_
                rintro e wq ⟨fx, is2, rfl, hx1, hx1q, HS1, HD1, bC⟩
                replace bD := below_trans bD bC
                replace C := C.keep bC
                clear bC hx1
                refine hK.out _ _ ?_ (fun hHeld => ?_)
                · exact HALL _ bD
                clear hK K
                try simp only [puts, gets]
                refine any_take (by kernel_rfl) (i := 5) (oi := _) (v := ?_) rfl rfl (by kernel_rfl) (by kernel_rfl) (by kernel_rfl) (fun _ _ _ h => h) (Or.inl ⟨by rfl, ?_⟩) hHeld ?_
                rotate_left
                · intro w' hSw; try dsimp only at hSw
                  go_simp
                  try with_reducible rfl
                try simp only [puts, gets]
                refine any_take (by kernel_rfl) (i := 6) (oi := _) (v := ?_) rfl rfl (by kernel_rfl) (by kernel_rfl) (by kernel_rfl) (fun _ _ _ h => h) (Or.inl ⟨by rfl, ?_⟩) hHeld ?_
                rotate_left
                · intro w' hSw; try dsimp only at hSw
                  go_simp
                  try with_reducible rfl
                try simp only [puts, gets]
                refine any_take (by kernel_rfl) (i := 7) (oi := _) (v := ?_) rfl rfl (by kernel_rfl) (by kernel_rfl) (by kernel_rfl) (fun _ _ _ h => h) (Or.inl ⟨by rfl, ?_⟩) hHeld ?_
                rotate_left
                · intro w' hSw; try dsimp only at hSw
                  go_simp
                  try with_reducible rfl
                try simp only [puts, gets]
                refine any_next (i := 9) (by kernel_rfl) rfl rfl (fun K hK => ?_)
                have x0 := C.at_ (j := 0) rfl
                have x1 := C.at_ (j := 1) rfl
                have x2 := C.at_ (j := 2) rfl
                have e0 := C.free 0
                have e1 := C.free 1
                have e2 := C.free 2
                have Y := ((C.set 0 fx.vv).set 1 fx.kv).set 2 fx.wv
                have BY := ((bD.setCell (p := ⟨g, 0, none⟩) hgl fx.vv).setCell (p := ⟨g, 1, none⟩) hgl fx.kv).setCell (p := ⟨g, 2, none⟩) hgl fx.wv
                go_simp
                obtain ⟨wZ, hwZ⟩ : ∃ z : World, z = ((wq.setCell ⟨g, 0, none⟩ fx.vv).setCell ⟨g, 1, none⟩ fx.kv).setCell ⟨g, 2, none⟩ fx.wv := ⟨_, rfl⟩
                rw [← hwZ] at Y BY
                try rw [← hwZ]
                clear hwZ x0 x1 x2 e0 e1 e2
                refine hK.out _ _ ?_ (fun hHeld => ?_)
                · exact HALL _ BY
                clear hK K
                try simp only [puts, gets]
                refine any_take (by kernel_rfl) (i := 10) (oi := _) (v := ?_) rfl rfl (by kernel_rfl) (by kernel_rfl) (by kernel_rfl) (fun _ _ _ h => h) (Or.inl ⟨by rfl, ?_⟩) hHeld ?_
                rotate_left
                · intro w' hSw; try dsimp only at hSw
                  go_simp
                  try with_reducible rfl
                try simp only [puts, gets]
                refine any_done (by kernel_rfl) ?_ _
                refine NoPanic.normal ?_
                go_wp2
                go_meet
                case rel => exact ⟨g, fx, is2, rfl, rfl, Y, HD1.out _ (hsrc.keep BY), hx1q, HS1, BY⟩
            case rest =>
              obtain ⟨b22, s2, both, rfl, rfl, CS, hs2t, -, HSS, BF⟩ := hcut
              have bN := BF
              clear BF hvt hs1 hs2
              obtain ⟨wh, hwh⟩ : ∃ zz, zz = wc := ⟨_, rfl⟩
              rw [← hwh] at bN CS hs2t
              rw [← hwh]
              clear hwh
              replace hT := hT.keep bN
              replace ha := ha.keep bN
              replace hp := hp.keep bN
              replace ht := ht.keep bN
              replace RL := RL.keep bN
              replace hx := hx.keep bN
              replace hf1 := hf1.keep bN
              replace CT := CT.keep bN
              replace ct0 := CT.at_ (j := 0) rfl
              replace ct1 := CT.at_ (j := 1) rfl
              replace ct2 := CT.at_ (j := 2) rfl
              replace CX := CX.keep bN
              replace cx0 := CX.at_ (j := 0) rfl
              replace cx1 := CX.at_ (j := 1) rfl
              replace cx2 := CX.at_ (j := 2) rfl
              replace CF := CF.keep bN
              replace cf0 := CF.at_ (j := 0) rfl
              replace cf1 := CF.at_ (j := 1) rfl
              replace cf2 := CF.at_ (j := 2) rfl
              replace B1 := below_trans B1 bN
              clear bN
              have cs0 := CS.at_ (j := 0) rfl
              have cs1 := CS.at_ (j := 1) rfl
              have cs2 := CS.at_ (j := 2) rfl
              have HPS := pre_sub HC.out.1 HC.out.2 HBT.out HTS.out.1 (by rw [HTS.out.2, HNP.out]; exact hnpc) (by rw [HTS.out.2]) HCZ.out HSX.out.1
              have HPA := sub_parts HC.out.1 HC.out.2 HBT.out (k := k) HSX.out.1 HSF.out.1 (u := f1.tr) (fun y hy => by cases is with
                | false => cases hy
                | true => exact Option.some.inj hy) HSS.out.1
              have hok : ok = (is && both) := by revert HPA; cases ok <;> cases is <;> cases both <;> simp
              have hxs : ok = true → x.tr = s2.tr := by revert HPA; cases ok <;> cases is <;> cases both <;> simp
              have hnq : (ok != (is && both)) = false := by rw [← hok]; cases ok <;> rfl
              have hnq2 : is = true → (ok != both) = false := by intro hi; rw [hi, Bool.true_and] at hok; rw [hok]; cases both <;> rfl
              rw [HNP.out] at HPS
              rw [HNZ.out] at HPS
              cases ok with
              | false =>
                have hn0 : nz = 0 := HPS.1 rfl
                clear HPS HPA hxs
                subst hn0
                cases is with
                | false =>
                  clear hok hnq hnq2
                  go_wp2
                  go_ret
                  exact ⟨rfl, B1⟩
                | true =>
                  obtain rfl : both = false := by simpa using hok.symm
                  clear hok hnq hnq2
                  go_wp2
                  go_ret
                  exact ⟨rfl, B1⟩
              | true =>
                obtain ⟨rfl, rfl⟩ : is = true ∧ both = true := by simpa using hok.symm
                obtain ⟨hrx, hsame, hpos⟩ := HPS.2 x.tr rfl
                have hxe := hxs rfl
                rw [hxe] at hsame
                skip
                have hlx : Lim x.tr := by
                  obtain ⟨F, hF, hgF, hbt, -⟩ := built_fit HC.out.1 HC.out.2 HBT.out
                  exact sub_lim hgF (fitF_len hF HX.out) (by rw [← hbt]; exact HSX.out.1)
                have hSQ := fun W h1 h2 => same_all 8 (by decide) x s2 W h1 h2
                unfold trV at hSQ
                rw [hxe, hsame] at hSQ
                have hrl : (rowsT ((i : Int) - (np : Int)) x.tr).length ≤ 100000 := by rw [hrx, List.length_map, rows_length, HNZ.out]; omega
                have hRW := fun W h1 h2 => TRows_any ((i : Int) - (np : Int)) x W h1 h2 hlx hrl
                unfold trV at hRW
                have HRX := Lib.hid hrx
                have hw1 : IntKind.i64.wrap ((i : Int) - (np : Int)) = (i : Int) - (np : Int) := by rw [IntKind.wrap_i64]; omega
                clear HPS HPA hxs hok hrx hsame hxe hlx hrl
                go_wp2_with fail
                refine (hSQ _ hx hs2t).mono ?_
                rintro e wv ⟨rfl, bN⟩
                clear hSQ
                replace hT := hT.keep bN
                replace ha := ha.keep bN
                replace hp := hp.keep bN
                replace ht := ht.keep bN
                replace RL := RL.keep bN
                replace hx := hx.keep bN
                replace hf1 := hf1.keep bN
                replace hs2t := hs2t.keep bN
                replace CT := CT.keep bN
                replace ct0 := CT.at_ (j := 0) rfl
                replace ct1 := CT.at_ (j := 1) rfl
                replace ct2 := CT.at_ (j := 2) rfl
                replace CX := CX.keep bN
                replace cx0 := CX.at_ (j := 0) rfl
                replace cx1 := CX.at_ (j := 1) rfl
                replace cx2 := CX.at_ (j := 2) rfl
                replace CF := CF.keep bN
                replace cf0 := CF.at_ (j := 0) rfl
                replace cf1 := CF.at_ (j := 1) rfl
                replace cf2 := CF.at_ (j := 2) rfl
                replace CS := CS.keep bN
                replace cs0 := CS.at_ (j := 0) rfl
                replace cs1 := CS.at_ (j := 1) rfl
                replace cs2 := CS.at_ (j := 2) rfl
                replace B1 := below_trans B1 bN
                clear bN
                go_wp2_with fail
                refine (hRW _ hT hx).mono ?_
                rintro e wq ⟨u1, l1, rfl, HL1, HE1, bN⟩
                have R1 := HL1.rel (by have := congrArg List.length HE1.out; rw [rows_length, HRX.out, List.length_map, rows_length, HNZ.out] at this; omega)
                clear HL1 hRW
                replace hT := hT.keep bN
                replace ha := ha.keep bN
                replace hp := hp.keep bN
                replace ht := ht.keep bN
                replace RL := RL.keep bN
                replace hx := hx.keep bN
                replace hf1 := hf1.keep bN
                replace hs2t := hs2t.keep bN
                replace CT := CT.keep bN
                replace ct0 := CT.at_ (j := 0) rfl
                replace ct1 := CT.at_ (j := 1) rfl
                replace ct2 := CT.at_ (j := 2) rfl
                replace CX := CX.keep bN
                replace cx0 := CX.at_ (j := 0) rfl
                replace cx1 := CX.at_ (j := 1) rfl
                replace cx2 := CX.at_ (j := 2) rfl
                replace CF := CF.keep bN
                replace cf0 := CF.at_ (j := 0) rfl
                replace cf1 := CF.at_ (j := 1) rfl
                replace cf2 := CF.at_ (j := 2) rfl
                replace CS := CS.keep bN
                replace cs0 := CS.at_ (j := 0) rfl
                replace cs1 := CS.at_ (j := 1) rfl
                replace cs2 := CS.at_ (j := 2) rfl
                replace B1 := below_trans B1 bN
                clear bN
                go_wp2_with fail
                refine (rSameR_any _ _ l1 L _ R1 RL).mono ?_
                rintro e ws ⟨rfl, bN⟩
                rw [decide_eq_true (HE1.out.trans (HRX.out.trans HRL.out.symm))]
                replace hT := hT.keep bN
                replace ha := ha.keep bN
                replace hp := hp.keep bN
                replace ht := ht.keep bN
                replace RL := RL.keep bN
                replace hx := hx.keep bN
                replace hf1 := hf1.keep bN
                replace hs2t := hs2t.keep bN
                replace R1 := R1.keep bN
                replace CT := CT.keep bN
                replace ct0 := CT.at_ (j := 0) rfl
                replace ct1 := CT.at_ (j := 1) rfl
                replace ct2 := CT.at_ (j := 2) rfl
                replace CX := CX.keep bN
                replace cx0 := CX.at_ (j := 0) rfl
                replace cx1 := CX.at_ (j := 1) rfl
                replace cx2 := CX.at_ (j := 2) rfl
                replace CF := CF.keep bN
                replace cf0 := CF.at_ (j := 0) rfl
                replace cf1 := CF.at_ (j := 1) rfl
                replace cf2 := CF.at_ (j := 2) rfl
                replace CS := CS.keep bN
                replace cs0 := CS.at_ (j := 0) rfl
                replace cs1 := CS.at_ (j := 1) rfl
                replace cs2 := CS.at_ (j := 2) rfl
                replace B1 := below_trans B1 bN
                clear bN
                by_cases hn0 : 0 < nz
                · have hn0z : (0 : Int) < (nz : Int) := by omega
                  go_wp2
                  go_ret
                  exact ⟨rfl, B1⟩
                · have hn0z : ¬ (0 : Int) < (nz : Int) := by omega
                  have hnp0 : np = 0 := by
                    rcases Nat.eq_zero_or_pos np with h | h
                    · exact h
                    · exact absurd (hpos (fun e => by have := HNP.out; rw [e] at this; simp at this; omega)) hn0
                  subst hnp0
                  go_wp2
                  go_ret
                  exact ⟨rfl, B1⟩
end Go.Proofs.YtdibijhaiaiifaaDoor
