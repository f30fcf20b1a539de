/- The walk of the law TrieMatchesReference. -/
import Derived.Test.YtdibijhaiaiifaaDoorJ31
import Derived.Test.YtdibijhaiaiifaaDoorJ30
namespace Go.Proofs.YtdibijhaiaiifaaDoor
open Go.RowKit
theorem isTries_lit {w : World} {l : List TR} (hl : l.length ≤ 9223372036854775807) (h : ∀ x ∈ l, TrOk w x) : IsTries (w.alloc (.cells (l.flatMap encK).toArray 64)) (.slice (some ⟨w.heap.size, 0, none⟩) l.length l.length) l :=
  ⟨IsRows.lit w l encsK hl, fun x hx => (h x hx).keep (below_new _ _)⟩
set_option maxHeartbeats 16000000 in
set_option maxRecDepth 1000000 in
theorem law11_any (columns : Int) (va vb : Value) (r : TR) (vp : Value) (v : Vl) (xs ys : List RR) (p : List Vl) (w : World) (hT : Tab w) (ha : IsRel w va xs) (hb : IsRel w vb ys) (hr : TrOk w r) (hw' : Wide r.tr) (hp : IsVals w vp p) : Calls Tryd.prog 11 #[.int .i64 columns, va, vb, trV r, vp, valV v] w fun e w' => e = .returned (.bool true) ∧ Below w.heap.size w w' := by
  have hw := Lib.hid hw'
  clear hw'
  obtain ⟨pa, ca, rfl, -⟩ := ha.shape
  obtain ⟨pb, cb, rfl, -⟩ := hb.shape
  obtain ⟨pp, pc, rfl, -, hpm, -, -⟩ := id hp
  have HSM := fun W h => Small_any r W h hw.out
  unfold trV at HSM
  unfold trV valV strV
  have CR := Cel.new w 64 [r.vv, r.kv, r.wv]
  have CV := Cel.new (w.alloc (.cells #[r.vv, r.kv, r.wv] 64)) 58 [.int .i64 v.t, .int .i64 v.n, .string ⟨v.s.toArray⟩]
  have bN := below_alloc' (o := .cells #[.int .i64 v.t, .int .i64 v.n, .string ⟨v.s.toArray⟩] 58) (below_new w (.cells #[r.vv, r.kv, r.wv] 64))
  replace CR := CR.keep (below_new _ (.cells #[.int .i64 v.t, .int .i64 v.n, .string ⟨v.s.toArray⟩] 58))
  rw [World.size_alloc] at CV
  go_enter Tryd.func11, Tryd.ntmps11
  go_upto_region 1 with fail
  obtain ⟨w9, hw9⟩ : ∃ zz, (w.alloc (.cells #[r.vv, r.kv, r.wv] 64)).alloc (.cells #[.int .i64 v.t, .int .i64 v.n, .string ⟨v.s.toArray⟩] 58) = zz := ⟨_, rfl⟩
  replace CR : Cel w9 w.heap.size 64 [r.vv, r.kv, r.wv] := by rw [← hw9]; exact CR
  replace CV : Cel w9 (w.heap.size + 1) 58 [.int .i64 v.t, .int .i64 v.n, .string ⟨v.s.toArray⟩] := by rw [← hw9]; exact CV
  rw [hw9] at bN
  rw [hw9]
  clear hw9
  obtain ⟨b9, hb9⟩ : ∃ g, w.heap.size = g := ⟨_, rfl⟩
  obtain ⟨b11, hb11⟩ : ∃ g, b9 + 1 = g := ⟨_, rfl⟩
  have B1 : Below w.heap.size w w9 := bN
  rw [hb9] at CR CV
  rw [hb11] at CV
  rw [hb9]
  rw [hb11]
  clear hb9 hb11
  replace hT := hT.keep bN
  replace ha := ha.keep bN
  replace hb := hb.keep bN
  replace hr := hr.keep bN
  replace hp := hp.keep bN
  clear bN
  have r0 := CR.at_ (j := 0) rfl
  have v0 := CV.at_ (j := 0) rfl
  have r1 := CR.at_ (j := 1) rfl
  have v1 := CV.at_ (j := 1) rfl
  have r2 := CR.at_ (j := 2) rfl
  have v2 := CV.at_ (j := 2) rfl
  go_wp2_with fail
  refine (thead_any _ hT).mono ?_
  rintro e w1 ⟨rfl, bN⟩
  replace hT := hT.keep bN
  replace ha := ha.keep bN
  replace hb := hb.keep bN
  replace hr := hr.keep bN
  replace hp := hp.keep bN
  replace CR := CR.keep bN
  replace r0 := CR.at_ (j := 0) rfl
  replace r1 := CR.at_ (j := 1) rfl
  replace r2 := CR.at_ (j := 2) rfl
  replace CV := CV.keep bN
  replace v0 := CV.at_ (j := 0) rfl
  replace v1 := CV.at_ (j := 1) rfl
  replace v2 := CV.at_ (j := 2) rfl
  replace B1 := below_trans B1 bN
  clear bN
  go_wp2_with fail
  refine (fewR_any _ xs _ ha).mono ?_
  rintro e w2 ⟨rfl, bN⟩
  replace hT := hT.keep bN
  replace ha := ha.keep bN
  replace hb := hb.keep bN
  replace hr := hr.keep bN
  replace hp := hp.keep bN
  replace CR := CR.keep bN
  replace r0 := CR.at_ (j := 0) rfl
  replace r1 := CR.at_ (j := 1) rfl
  replace r2 := CR.at_ (j := 2) rfl
  replace CV := CV.keep bN
  replace v0 := CV.at_ (j := 0) rfl
  replace v1 := CV.at_ (j := 1) rfl
  replace v2 := CV.at_ (j := 2) rfl
  replace B1 := below_trans B1 bN
  clear bN
  cases hf : fewR xs
  · clear hf
    go_wp2
    go_ret
    exact ⟨rfl, B1⟩
  have HX4 := Lib.hid (fewR_sml hf)
  have HX := Lib.hid ((fewR_sml hf).mono (m := 10000) (by decide))
  clear hf
  go_wp2_with fail
  refine (fewR_any _ ys _ hb).mono ?_
  rintro e w2 ⟨rfl, bN⟩
  replace hT := hT.keep bN
  replace ha := ha.keep bN
  replace hb := hb.keep bN
  replace hr := hr.keep bN
  replace hp := hp.keep bN
  replace CR := CR.keep bN
  replace r0 := CR.at_ (j := 0) rfl
  replace r1 := CR.at_ (j := 1) rfl
  replace r2 := CR.at_ (j := 2) rfl
  replace CV := CV.keep bN
  replace v0 := CV.at_ (j := 0) rfl
  replace v1 := CV.at_ (j := 1) rfl
  replace v2 := CV.at_ (j := 2) rfl
  replace B1 := below_trans B1 bN
  clear bN
  cases hf : fewR ys
  · clear hf
    go_wp2
    go_ret
    exact ⟨rfl, B1⟩
  have HY4 := Lib.hid (fewR_sml hf)
  have HY := Lib.hid ((fewR_sml hf).mono (m := 10000) (by decide))
  clear hf
  go_wp2_with fail
  refine (HSM _ hr).mono ?_
  rintro e w2 ⟨b, rfl, HS, bN⟩
  clear HSM
  replace hT := hT.keep bN
  replace ha := ha.keep bN
  replace hb := hb.keep bN
  replace hr := hr.keep bN
  replace hp := hp.keep bN
  replace CR := CR.keep bN
  replace r0 := CR.at_ (j := 0) rfl
  replace r1 := CR.at_ (j := 1) rfl
  replace r2 := CR.at_ (j := 2) rfl
  replace CV := CV.keep bN
  replace v0 := CV.at_ (j := 0) rfl
  replace v1 := CV.at_ (j := 1) rfl
  replace v2 := CV.at_ (j := 2) rfl
  replace B1 := below_trans B1 bN
  clear bN
  cases b with
  | false =>
    go_wp2
    go_ret
    exact ⟨rfl, B1⟩
  | true =>
    replace HS := Lib.hid (HS.out rfl)
    obtain ⟨np, hnp⟩ : ∃ n, p.length = n := ⟨_, rfl⟩
    rw [hnp] at hpm
    rw [hnp] at hp
    try rw [hnp]
    clear hnp
    by_cases hn10 : 10 < np
    · have hn10z : (10 : Int) < (np : Int) := by omega
      go_wp2
      go_ret
      exact ⟨rfl, B1⟩
    have hn10z : ¬ (10 : Int) < (np : Int) := by omega
    go_wp2_with fail
    refine (rBuild_any _ columns xs _ ha HX.out).mono ?_
    rintro e wt ⟨t, rfl, ht, HBt, bN⟩
    unfold trV
    replace hT := hT.keep bN
    replace ha := ha.keep bN
    replace hb := hb.keep bN
    replace hr := hr.keep bN
    replace hp := hp.keep bN
    replace CR := CR.keep bN
    replace r0 := CR.at_ (j := 0) rfl
    replace r1 := CR.at_ (j := 1) rfl
    replace r2 := CR.at_ (j := 2) rfl
    replace CV := CV.keep bN
    replace v0 := CV.at_ (j := 0) rfl
    replace v1 := CV.at_ (j := 1) rfl
    replace v2 := CV.at_ (j := 2) rfl
    replace B1 := below_trans B1 bN
    clear bN
    have CT := Cel.new wt 64 [t.vv, t.kv, t.wv]
    have bN := below_new wt (.cells #[t.vv, t.kv, t.wv] 64)
    go_upto_region 5 with fail
    obtain ⟨wb14, hw⟩ : ∃ zz, wt.alloc (.cells #[t.vv, t.kv, t.wv] 64) = zz := ⟨_, rfl⟩
    replace CT : Cel wb14 wt.heap.size 64 [t.vv, t.kv, t.wv] := by rw [← hw]; exact CT
    rw [hw] at bN
    try rw [hw]
    clear hw
    obtain ⟨b14, hb⟩ : ∃ g, wt.heap.size = g := ⟨_, rfl⟩
    rw [hb] at CT
    try rw [hb]
    clear hb
    replace hT := hT.keep bN
    replace ha := ha.keep bN
    replace hb := hb.keep bN
    replace hr := hr.keep bN
    replace hp := hp.keep bN
    replace ht := ht.keep bN
    replace CR := CR.keep bN
    replace r0 := CR.at_ (j := 0) rfl
    replace r1 := CR.at_ (j := 1) rfl
    replace r2 := CR.at_ (j := 2) rfl
    replace CV := CV.keep bN
    replace v0 := CV.at_ (j := 0) rfl
    replace v1 := CV.at_ (j := 1) rfl
    replace v2 := CV.at_ (j := 2) rfl
    replace B1 := below_trans B1 bN
    clear bN
    have ct0 := CT.at_ (j := 0) rfl
    have ct1 := CT.at_ (j := 1) rfl
    have ct2 := CT.at_ (j := 2) rfl
    go_wp2_with fail
    refine (rBuild_any _ columns ys _ hb HY.out).mono ?_
    rintro e wu ⟨u, rfl, hu, HBu, bN⟩
    unfold trV
    replace hT := hT.keep bN
    replace ha := ha.keep bN
    replace hb := hb.keep bN
    replace hr := hr.keep bN
    replace hp := hp.keep bN
    replace ht := ht.keep bN
    replace CR := CR.keep bN
    replace r0 := CR.at_ (j := 0) rfl
    replace r1 := CR.at_ (j := 1) rfl
    replace r2 := CR.at_ (j := 2) rfl
    replace CV := CV.keep bN
    replace v0 := CV.at_ (j := 0) rfl
    replace v1 := CV.at_ (j := 1) rfl
    replace v2 := CV.at_ (j := 2) rfl
    replace CT := CT.keep bN
    replace ct0 := CT.at_ (j := 0) rfl
    replace ct1 := CT.at_ (j := 1) rfl
    replace ct2 := CT.at_ (j := 2) rfl
    replace B1 := below_trans B1 bN
    clear bN
    have CU := Cel.new wu 64 [u.vv, u.kv, u.wv]
    have bN := below_new wu (.cells #[u.vv, u.kv, u.wv] 64)
    go_upto_region 6 with fail
    obtain ⟨wb15, hw⟩ : ∃ zz, wu.alloc (.cells #[u.vv, u.kv, u.wv] 64) = zz := ⟨_, rfl⟩
    replace CU : Cel wb15 wu.heap.size 64 [u.vv, u.kv, u.wv] := by rw [← hw]; exact CU
    rw [hw] at bN
    try rw [hw]
    clear hw
    obtain ⟨b15, hb⟩ : ∃ g, wu.heap.size = g := ⟨_, rfl⟩
    rw [hb] at CU
    try rw [hb]
    clear hb
    replace hT := hT.keep bN
    replace ha := ha.keep bN
    replace hb := hb.keep bN
    replace hr := hr.keep bN
    replace hp := hp.keep bN
    replace ht := ht.keep bN
    replace hu := hu.keep bN
    replace CR := CR.keep bN
    replace r0 := CR.at_ (j := 0) rfl
    replace r1 := CR.at_ (j := 1) rfl
    replace r2 := CR.at_ (j := 2) rfl
    replace CV := CV.keep bN
    replace v0 := CV.at_ (j := 0) rfl
    replace v1 := CV.at_ (j := 1) rfl
    replace v2 := CV.at_ (j := 2) rfl
    replace CT := CT.keep bN
    replace ct0 := CT.at_ (j := 0) rfl
    replace ct1 := CT.at_ (j := 1) rfl
    replace ct2 := CT.at_ (j := 2) rfl
    replace B1 := below_trans B1 bN
    clear bN
    have cu0 := CU.at_ (j := 0) rfl
    have cu1 := CU.at_ (j := 1) rfl
    have cu2 := CU.at_ (j := 2) rfl
    obtain ⟨hit, hlt, hqt, hmt⟩ := built_facts HBt.out HX.out
    have HIt := Lib.hid hit
    have HLt := Lib.hid hlt
    have HQt := Lib.hid hqt
    have HMt := Lib.hid hmt
    clear hit hlt hqt hmt
    obtain ⟨hiu, hlu, hqu, hmu⟩ := built_facts HBu.out HY.out
    have HIu := Lib.hid hiu
    have HLu := Lib.hid hlu
    have HQu := Lib.hid hqu
    have HMu := Lib.hid hmu
    clear hiu hlu hqu hmu
    have hSB := fun W h1 h2 => Sub_any t (.slice pp np pc) p W h1 HQt.out h2
    unfold SubRet trV at hSB
    go_wp2_with fail
    refine (hSB _ ht hp).mono ?_
    rintro e wx ⟨x, ok, rfl, hx, hxq, HSx, bN⟩
    clear hSB
    replace hT := hT.keep bN
    replace ha := ha.keep bN
    replace hb := hb.keep bN
    replace hr := hr.keep bN
    replace hp := hp.keep bN
    replace ht := ht.keep bN
    replace hu := hu.keep bN
    replace CR := CR.keep bN
    replace r0 := CR.at_ (j := 0) rfl
    replace r1 := CR.at_ (j := 1) rfl
    replace r2 := CR.at_ (j := 2) rfl
    replace CV := CV.keep bN
    replace v0 := CV.at_ (j := 0) rfl
    replace v1 := CV.at_ (j := 1) rfl
    replace v2 := CV.at_ (j := 2) rfl
    replace CT := CT.keep bN
    replace ct0 := CT.at_ (j := 0) rfl
    replace ct1 := CT.at_ (j := 1) rfl
    replace ct2 := CT.at_ (j := 2) rfl
    replace CU := CU.keep bN
    replace cu0 := CU.at_ (j := 0) rfl
    replace cu1 := CU.at_ (j := 1) rfl
    replace cu2 := CU.at_ (j := 2) rfl
    replace B1 := below_trans B1 bN
    clear bN
    have CX := Cel.new wx 64 [x.vv, x.kv, x.wv]
    have bN := below_new wx (.cells #[x.vv, x.kv, x.wv] 64)
    go_upto_region 7 with fail
    obtain ⟨wb16, hw⟩ : ∃ zz, wx.alloc (.cells #[x.vv, x.kv, x.wv] 64) = zz := ⟨_, rfl⟩
    replace CX : Cel wb16 wx.heap.size 64 [x.vv, x.kv, x.wv] := by rw [← hw]; exact CX
    rw [hw] at bN
    try rw [hw]
    clear hw
    obtain ⟨b16, hb⟩ : ∃ g, wx.heap.size = g := ⟨_, rfl⟩
    rw [hb] at CX
    try rw [hb]
    clear hb
    replace hT := hT.keep bN
    replace ha := ha.keep bN
    replace hb := hb.keep bN
    replace hr := hr.keep bN
    replace hp := hp.keep bN
    replace ht := ht.keep bN
    replace hu := hu.keep bN
    replace hx := hx.keep bN
    replace CR := CR.keep bN
    replace r0 := CR.at_ (j := 0) rfl
    replace r1 := CR.at_ (j := 1) rfl
    replace r2 := CR.at_ (j := 2) rfl
    replace CV := CV.keep bN
    replace v0 := CV.at_ (j := 0) rfl
    replace v1 := CV.at_ (j := 1) rfl
    replace v2 := CV.at_ (j := 2) rfl
    replace CT := CT.keep bN
    replace ct0 := CT.at_ (j := 0) rfl
    replace ct1 := CT.at_ (j := 1) rfl
    replace ct2 := CT.at_ (j := 2) rfl
    replace CU := CU.keep bN
    replace cu0 := CU.at_ (j := 0) rfl
    replace cu1 := CU.at_ (j := 1) rfl
    replace cu2 := CU.at_ (j := 2) rfl
    replace B1 := below_trans B1 bN
    clear bN
    have cx0 := CX.at_ (j := 0) rfl
    have cx1 := CX.at_ (j := 1) rfl
    have cx2 := CX.at_ (j := 2) rfl
    have hSB := fun W h1 h2 => rSub_any t (.slice pp np pc) p W h1 HQt.out h2
    unfold SubRet trV at hSB
    go_wp2_with fail
    refine (hSB _ ht hp).mono ?_
    rintro e wy ⟨y, is, rfl, hy, hyq, HSy, bN⟩
    clear hSB
    replace hT := hT.keep bN
    replace ha := ha.keep bN
    replace hb := hb.keep bN
    replace hr := hr.keep bN
    replace hp := hp.keep bN
    replace ht := ht.keep bN
    replace hu := hu.keep bN
    replace hx := hx.keep bN
    replace CR := CR.keep bN
    replace r0 := CR.at_ (j := 0) rfl
    replace r1 := CR.at_ (j := 1) rfl
    replace r2 := CR.at_ (j := 2) rfl
    replace CV := CV.keep bN
    replace v0 := CV.at_ (j := 0) rfl
    replace v1 := CV.at_ (j := 1) rfl
    replace v2 := CV.at_ (j := 2) rfl
    replace CT := CT.keep bN
    replace ct0 := CT.at_ (j := 0) rfl
    replace ct1 := CT.at_ (j := 1) rfl
    replace ct2 := CT.at_ (j := 2) rfl
    replace CU := CU.keep bN
    replace cu0 := CU.at_ (j := 0) rfl
    replace cu1 := CU.at_ (j := 1) rfl
    replace cu2 := CU.at_ (j := 2) rfl
    replace CX := CX.keep bN
    replace cx0 := CX.at_ (j := 0) rfl
    replace cx1 := CX.at_ (j := 1) rfl
    replace cx2 := CX.at_ (j := 2) rfl
    replace B1 := below_trans B1 bN
    clear bN
    have CY := Cel.new wy 64 [y.vv, y.kv, y.wv]
    have bN := below_new wy (.cells #[y.vv, y.kv, y.wv] 64)
    go_upto_region 8 with fail
    obtain ⟨wb18, hw⟩ : ∃ zz, wy.alloc (.cells #[y.vv, y.kv, y.wv] 64) = zz := ⟨_, rfl⟩
    replace CY : Cel wb18 wy.heap.size 64 [y.vv, y.kv, y.wv] := by rw [← hw]; exact CY
    rw [hw] at bN
    try rw [hw]
    clear hw
    obtain ⟨b18, hb⟩ : ∃ g, wy.heap.size = g := ⟨_, rfl⟩
    rw [hb] at CY
    try rw [hb]
    clear hb
    replace hT := hT.keep bN
    replace ha := ha.keep bN
    replace hb := hb.keep bN
    replace hr := hr.keep bN
    replace hp := hp.keep bN
    replace ht := ht.keep bN
    replace hu := hu.keep bN
    replace hx := hx.keep bN
    replace hy := hy.keep bN
    replace CR := CR.keep bN
    replace r0 := CR.at_ (j := 0) rfl
    replace r1 := CR.at_ (j := 1) rfl
    replace r2 := CR.at_ (j := 2) rfl
    replace CV := CV.keep bN
    replace v0 := CV.at_ (j := 0) rfl
    replace v1 := CV.at_ (j := 1) rfl
    replace v2 := CV.at_ (j := 2) rfl
    replace CT := CT.keep bN
    replace ct0 := CT.at_ (j := 0) rfl
    replace ct1 := CT.at_ (j := 1) rfl
    replace ct2 := CT.at_ (j := 2) rfl
    replace CU := CU.keep bN
    replace cu0 := CU.at_ (j := 0) rfl
    replace cu1 := CU.at_ (j := 1) rfl
    replace cu2 := CU.at_ (j := 2) rfl
    replace CX := CX.keep bN
    replace cx0 := CX.at_ (j := 0) rfl
    replace cx1 := CX.at_ (j := 1) rfl
    replace cx2 := CX.at_ (j := 2) rfl
    replace B1 := below_trans B1 bN
    clear bN
    have cy0 := CY.at_ (j := 0) rfl
    have cy1 := CY.at_ (j := 1) rfl
    have cy2 := CY.at_ (j := 2) rfl
    obtain ⟨hok, hsm⟩ := ref_subs HX.out HBt.out HSx.out HSy.out
    subst hok
    clear HSx HSy hxq hyq
    obtain ⟨sk, hsk⟩ : ∃ n, seekN t.vs v = n := ⟨_, rfl⟩
    have hS1 := fun W h1 h2 => same_all 8 (by decide) x y W h1 h2
    unfold trV at hS1
    rw [hsm] at hS1
    have hK1 := fun W h => seekInc_any t v W h HLt.out HIt.out
    have hK2 := fun W h => rSeek_any t v W h
    rw [hsk] at hK1 hK2
    unfold trV valV strV at hK1 hK2
    clear hsm hsk
    have HALL : ∀ W, Below wb18.heap.size wb18 W → (fun w' => w'.cell? ⟨b11, 0, none⟩ = some (.int .i64 v.t) ∧ w'.cell? ⟨b11, 1, none⟩ = some (.int .i64 v.n) ∧ w'.cell? ⟨b11, 2, none⟩ = some (.string ⟨v.s.toArray⟩) ∧ w'.cell? ⟨b14, 0, none⟩ = some t.vv ∧ w'.cell? ⟨b14, 1, none⟩ = some t.kv ∧ w'.cell? ⟨b14, 2, none⟩ = some t.wv ∧ w'.cell? ⟨b16, 0, none⟩ = some x.vv ∧ w'.cell? ⟨b16, 1, none⟩ = some x.kv ∧ w'.cell? ⟨b16, 2, none⟩ = some x.wv ∧ w'.cell? ⟨b18, 0, none⟩ = some y.vv ∧ w'.cell? ⟨b18, 1, none⟩ = some y.kv ∧ w'.cell? ⟨b18, 2, none⟩ = some y.wv) W := fun W hW => ⟨cell_keep hW v0, cell_keep hW v1, cell_keep hW v2, cell_keep hW ct0, cell_keep hW ct1, cell_keep hW ct2, cell_keep hW cx0, cell_keep hW cx1, cell_keep hW cx2, cell_keep hW cy0, cell_keep hW cy1, cell_keep hW cy2⟩
    clear r0 r1 r2 v0 v1 v2 ct0 ct1 ct2 cu0 cu1 cu2 cx0 cx1 cx2 cy0 cy1 cy2
    go_upto_region 8 with fail
    try simp only [List.append_eq, List.cons_append, List.nil_append]
    refine wp_region_noPanic ?_
    refine wp_region_late (fun w' => w'.cell? ⟨b11, 0, none⟩ = some (.int .i64 v.t) ∧ w'.cell? ⟨b11, 1, none⟩ = some (.int .i64 v.n) ∧ w'.cell? ⟨b11, 2, none⟩ = some (.string ⟨v.s.toArray⟩) ∧ w'.cell? ⟨b14, 0, none⟩ = some t.vv ∧ w'.cell? ⟨b14, 1, none⟩ = some t.kv ∧ w'.cell? ⟨b14, 2, none⟩ = some t.wv ∧ w'.cell? ⟨b16, 0, none⟩ = some x.vv ∧ w'.cell? ⟨b16, 1, none⟩ = some x.kv ∧ w'.cell? ⟨b16, 2, none⟩ = some x.wv ∧ w'.cell? ⟨b18, 0, none⟩ = some y.vv ∧ w'.cell? ⟨b18, 1, none⟩ = some y.kv ∧ w'.cell? ⟨b18, 2, none⟩ = some y.wv) 26 (by kernel_rfl) (HALL _ (Below.refl _ _).drew) (fun _ => ?_)
    obtain ⟨wd, hwd⟩ : ∃ x : World, wb18.drew = x := ⟨_, rfl⟩
    have bD : Below wb18.heap.size wb18 wd := by rw [← hwd]; exact (Below.refl _ _).drew
    rw [hwd]
    clear hwd
    have hHeld := HALL _ bD
    refine any_take (by kernel_rfl) (i := 0) (oi := _) (v := ?_) rfl rfl (by kernel_rfl) (by kernel_rfl) (by kernel_rfl) (fun _ _ _ h => h) (Or.inl ⟨by rfl, ?_⟩) hHeld ?_
    rotate_left
    · intro w' hSw; try dsimp only at hSw
      go_simp
      try with_reducible rfl
    try simp only [puts, gets]
    refine any_take (by kernel_rfl) (i := 1) (oi := _) (v := ?_) rfl rfl (by kernel_rfl) (by kernel_rfl) (by kernel_rfl) (fun _ _ _ h => h) (Or.inl ⟨by rfl, ?_⟩) hHeld ?_
    rotate_left
    · intro w' hSw; try dsimp only at hSw
      go_simp
      try with_reducible rfl
    try simp only [puts, gets]
    refine any_take (by kernel_rfl) (i := 2) (oi := _) (v := ?_) rfl rfl (by kernel_rfl) (by kernel_rfl) (by kernel_rfl) (fun _ _ _ h => h) (Or.inl ⟨by rfl, ?_⟩) hHeld ?_
    rotate_left
    · intro w' hSw; try dsimp only at hSw
      go_simp
      try with_reducible rfl
    try simp only [puts, gets]
    refine any_take (by kernel_rfl) (i := 3) (oi := _) (v := ?_) rfl rfl (by kernel_rfl) (by kernel_rfl) (by kernel_rfl) (fun _ _ _ h => h) (Or.inl ⟨by rfl, ?_⟩) hHeld ?_
    rotate_left
    · intro w' hSw; try dsimp only at hSw
      go_simp
      try with_reducible rfl
    try simp only [puts, gets]
    refine any_take (by kernel_rfl) (i := 4) (oi := _) (v := ?_) rfl rfl (by kernel_rfl) (by kernel_rfl) (by kernel_rfl) (fun _ _ _ h => h) (Or.inl ⟨by rfl, ?_⟩) hHeld ?_
    rotate_left
    · intro w' hSw; try dsimp only at hSw
      go_simp
      try with_reducible rfl
    try simp only [puts, gets]
    refine any_take (by kernel_rfl) (i := 5) (oi := _) (v := ?_) rfl rfl (by kernel_rfl) (by kernel_rfl) (by kernel_rfl) (fun _ _ _ h => h) (Or.inl ⟨by rfl, ?_⟩) hHeld ?_
    rotate_left
    · intro w' hSw; try dsimp only at hSw
      go_simp
      try with_reducible rfl
    try simp only [puts, gets]
    refine any_next (i := 6) (by kernel_rfl) rfl rfl (fun K hK => ?_)
    go_simp
    go_at_call 56
    refine (hS1 _ (hx.keep bD) (hy.keep bD)).mono ?_
    rintro e wq ⟨rfl, bC⟩
    replace bD := below_trans bD bC
    clear bC
    refine hK.out _ _ ?_ (fun hHeld => ?_)
    · exact HALL _ bD
    clear hK K
    try simp only [puts, gets]
    refine any_take (by kernel_rfl) (i := 7) (oi := _) (v := ?_) rfl rfl (by kernel_rfl) (by kernel_rfl) (by kernel_rfl) (fun _ _ _ h => h) (Or.inl ⟨by rfl, ?_⟩) hHeld ?_
    rotate_left
    · intro w' hSw; try dsimp only at hSw
      go_simp
      try with_reducible rfl
    try simp only [puts, gets]
    refine any_take (by kernel_rfl) (i := 8) (oi := _) (v := ?_) rfl rfl (by kernel_rfl) (by kernel_rfl) (by kernel_rfl) (fun _ _ _ h => h) (Or.inl ⟨by rfl, ?_⟩) hHeld ?_
    rotate_left
    · intro w' hSw; try dsimp only at hSw
      go_simp
      try with_reducible rfl
    try simp only [puts, gets]
    refine any_take (by kernel_rfl) (i := 9) (oi := _) (v := ?_) rfl rfl (by kernel_rfl) (by kernel_rfl) (by kernel_rfl) (fun _ _ _ h => h) (Or.inl ⟨by rfl, ?_⟩) hHeld ?_
    rotate_left
    · intro w' hSw; try dsimp only at hSw
      go_simp
      try with_reducible rfl
    try simp only [puts, gets]
    refine any_take (by kernel_rfl) (i := 10) (oi := _) (v := ?_) rfl rfl (by kernel_rfl) (by kernel_rfl) (by kernel_rfl) (fun _ _ _ h => h) (Or.inl ⟨by rfl, ?_⟩) hHeld ?_
    rotate_left
    · intro w' hSw; try dsimp only at hSw
      go_simp
      try with_reducible rfl
    try simp only [puts, gets]
    refine any_take (by kernel_rfl) (i := 11) (oi := _) (v := ?_) rfl rfl (by kernel_rfl) (by kernel_rfl) (by kernel_rfl) (fun _ _ _ h => h) (Or.inl ⟨by rfl, ?_⟩) hHeld ?_
    rotate_left
    · intro w' hSw; try dsimp only at hSw
      go_simp
      try with_reducible rfl
    try simp only [puts, gets]
    refine any_take (by kernel_rfl) (i := 13) (oi := _) (v := ?_) rfl rfl (by kernel_rfl) (by kernel_rfl) (by kernel_rfl) (fun _ _ _ h => h) (Or.inl ⟨by rfl, ?_⟩) hHeld ?_
    rotate_left
    · intro w' hSw; try dsimp only at hSw
      go_simp
      try with_reducible rfl
    try simp only [puts, gets]
    refine any_next (i := 12) (by kernel_rfl) rfl rfl (fun K hK => ?_)
    go_simp
    go_at_call 57
    refine (TBuild_any _ columns xs _ (hT.keep bD) (ha.keep bD) HX.out).mono ?_
    rintro e wq ⟨t2, rfl, ht2, HB2, bC⟩
    unfold trV
    have hS2 := fun W h1 h2 => same_all 8 (by decide) t2 t W h1 h2
    unfold trV at hS2
    rw [ref_same HX.out HB2.out HBt.out] at hS2
    replace bD := below_trans bD bC
    clear bC
    refine hK.out _ _ ?_ (fun hHeld => ?_)
    · exact HALL _ bD
    clear hK K
    try simp only [puts, gets]
    refine any_next (i := 14) (by kernel_rfl) rfl rfl (fun K hK => ?_)
    go_simp
    go_at_call 56
    refine (hS2 _ ht2 (ht.keep bD)).mono ?_
    rintro e wq ⟨rfl, bC⟩
    replace bD := below_trans bD bC
    clear bC
    refine hK.out _ _ ?_ (fun hHeld => ?_)
    · exact HALL _ bD
    clear hK K
    try simp only [puts, gets]
    refine any_take (by kernel_rfl) (i := 15) (oi := _) (v := ?_) rfl rfl (by kernel_rfl) (by kernel_rfl) (by kernel_rfl) (fun _ _ _ h => h) (Or.inl ⟨by rfl, ?_⟩) hHeld ?_
    rotate_left
    · intro w' hSw; try dsimp only at hSw
      go_simp
      try with_reducible rfl
    try simp only [puts, gets]
    refine any_take (by kernel_rfl) (i := 16) (oi := _) (v := ?_) rfl rfl (by kernel_rfl) (by kernel_rfl) (by kernel_rfl) (fun _ _ _ h => h) (Or.inl ⟨by rfl, ?_⟩) hHeld ?_
    rotate_left
    · intro w' hSw; try dsimp only at hSw
      go_simp
      try with_reducible rfl
    try simp only [puts, gets]
    refine any_take (by kernel_rfl) (i := 17) (oi := _) (v := ?_) rfl rfl (by kernel_rfl) (by kernel_rfl) (by kernel_rfl) (fun _ _ _ h => h) (Or.inl ⟨by rfl, ?_⟩) hHeld ?_
    rotate_left
    · intro w' hSw; try dsimp only at hSw
      go_simp
      try with_reducible rfl
    try simp only [puts, gets]
    refine any_take (by kernel_rfl) (i := 18) (oi := _) (v := ?_) rfl rfl (by kernel_rfl) (by kernel_rfl) (by kernel_rfl) (fun _ _ _ h => h) (Or.inl ⟨by rfl, ?_⟩) hHeld ?_
    rotate_left
    · intro w' hSw; try dsimp only at hSw
      go_simp
      try with_reducible rfl
    try simp only [puts, gets]
    refine any_take (by kernel_rfl) (i := 19) (oi := _) (v := ?_) rfl rfl (by kernel_rfl) (by kernel_rfl) (by kernel_rfl) (fun _ _ _ h => h) (Or.inl ⟨by rfl, ?_⟩) hHeld ?_
    rotate_left
    · intro w' hSw; try dsimp only at hSw
      go_simp
      try with_reducible rfl
    try simp only [puts, gets]
    refine any_take (by kernel_rfl) (i := 21) (oi := _) (v := ?_) rfl rfl (by kernel_rfl) (by kernel_rfl) (by kernel_rfl) (fun _ _ _ h => h) (Or.inl ⟨by rfl, ?_⟩) hHeld ?_
    rotate_left
    · intro w' hSw; try dsimp only at hSw
      go_simp
      try with_reducible rfl
    try simp only [puts, gets]
    refine any_take (by kernel_rfl) (i := 22) (oi := _) (v := ?_) rfl rfl (by kernel_rfl) (by kernel_rfl) (by kernel_rfl) (fun _ _ _ h => h) (Or.inl ⟨by rfl, ?_⟩) hHeld ?_
    rotate_left
    · intro w' hSw; try dsimp only at hSw
      go_simp
      try with_reducible rfl
    try simp only [puts, gets]
    refine any_next (i := 20) (by kernel_rfl) rfl rfl (fun K hK => ?_)
    go_simp
    go_at_call 58
    refine (hK1 _ (ht.keep bD)).mono ?_
    rintro e wq ⟨rfl, bC⟩
    replace bD := below_trans bD bC
    clear bC
    refine hK.out _ _ ?_ (fun hHeld => ?_)
    · exact HALL _ bD
    clear hK K
    try simp only [puts, gets]
    refine any_next (i := 23) (by kernel_rfl) rfl rfl (fun K hK => ?_)
    go_simp
    go_at_call 59
    refine (hK2 _ (ht.keep bD)).mono ?_
    rintro e wq ⟨rfl, bC⟩
    replace bD := below_trans bD bC
    clear bC
    refine hK.out _ _ ?_ (fun hHeld => ?_)
    · exact HALL _ bD
    clear hK K
    try simp only [puts, gets]
    refine any_take (by kernel_rfl) (i := 24) (oi := _) (v := ?_) rfl rfl (by kernel_rfl) (by kernel_rfl) (by kernel_rfl) (fun _ _ _ h => h) (Or.inl ⟨by rfl, ?_⟩) hHeld ?_
    rotate_left
    · intro w' hSw; try dsimp only at hSw
      go_simp
      try with_reducible rfl
    try simp only [puts, gets]
    refine any_take (by kernel_rfl) (i := 25) (oi := _) (v := ?_) rfl rfl (by kernel_rfl) (by kernel_rfl) (by kernel_rfl) (fun _ _ _ h => h) (Or.inl ⟨by rfl, ?_⟩) hHeld ?_
    rotate_left
    · intro w' hSw; try dsimp only at hSw
      go_simp
      try with_reducible rfl
    try simp only [puts, gets]
    refine any_done (by kernel_rfl) ?_ _
    refine NoPanic.normal ?_
    have bN := bD
    clear bD hHeld HALL hS1 hS2 hK1 hK2 ht2 HB2
    clear hx hy CX CY
    replace hT := hT.keep bN
    replace ha := ha.keep bN
    replace hb := hb.keep bN
    replace hr := hr.keep bN
    replace hp := hp.keep bN
    replace ht := ht.keep bN
    replace hu := hu.keep bN
    replace CR := CR.keep bN
    have r0 := CR.at_ (j := 0) rfl
    have r1 := CR.at_ (j := 1) rfl
    have r2 := CR.at_ (j := 2) rfl
    replace CV := CV.keep bN
    have v0 := CV.at_ (j := 0) rfl
    have v1 := CV.at_ (j := 1) rfl
    have v2 := CV.at_ (j := 2) rfl
    replace CT := CT.keep bN
    have ct0 := CT.at_ (j := 0) rfl
    have ct1 := CT.at_ (j := 1) rfl
    have ct2 := CT.at_ (j := 2) rfl
    replace CU := CU.keep bN
    have cu0 := CU.at_ (j := 0) rfl
    have cu1 := CU.at_ (j := 1) rfl
    have cu2 := CU.at_ (j := 2) rfl
    replace B1 := below_trans B1 bN
    clear bN
    obtain ⟨vq, hvq⟩ : ∃ q, validC columns r.tr = q := ⟨_, rfl⟩
    have hqq : (vq == vq) = true := by cases vq <;> rfl
    have hrr : (rowsT columns r.tr).length ≤ 100000 := Nat.le_trans (small_rows HS.out columns) (by decide)
    have hrt : (rowsT columns t.tr).length ≤ 100000 := ref_rows HX.out HBt.out
    have hV1 := fun W h1 h2 => TValid_any columns r W h1 h2 (small_lim HS.out)
    have hV2 := fun W h => rTValid_any columns r W h (small_lim HS.out)
    rw [hvq] at hV1 hV2
    have hR1 := fun W h1 h2 => TRows_any columns r W h1 h2 (small_lim HS.out) hrr
    have hR2 := fun W h => rTRows_any columns r W h (small_lim HS.out) hrr
    have hR3 := fun W h1 h2 => TRows_any columns t W h1 h2 HMt.out hrt
    have hR4 := fun W h => rTRows_any columns t W h HMt.out hrt
    unfold trV at hV1 hV2 hR1 hR2 hR3 hR4
    clear hvq
    go_upto_region 10 with fail
    have HALL : ∀ W, Below wq.heap.size wq W → (fun w' => w'.cell? ⟨b9, 0, none⟩ = some r.vv ∧ w'.cell? ⟨b9, 1, none⟩ = some r.kv ∧ w'.cell? ⟨b9, 2, none⟩ = some r.wv ∧ w'.cell? ⟨b14, 0, none⟩ = some t.vv ∧ w'.cell? ⟨b14, 1, none⟩ = some t.kv ∧ w'.cell? ⟨b14, 2, none⟩ = some t.wv ∧ w'.cell? ⟨b15, 0, none⟩ = some u.vv ∧ w'.cell? ⟨b15, 1, none⟩ = some u.kv ∧ w'.cell? ⟨b15, 2, none⟩ = some u.wv) W := fun W hW => ⟨cell_keep hW r0, cell_keep hW r1, cell_keep hW r2, cell_keep hW ct0, cell_keep hW ct1, cell_keep hW ct2, cell_keep hW cu0, cell_keep hW cu1, cell_keep hW cu2⟩
    clear r0 r1 r2 v0 v1 v2 ct0 ct1 ct2 cu0 cu1 cu2
    try simp only [List.append_eq, List.cons_append, List.nil_append]
    refine wp_region_noPanic ?_
    refine wp_region_late (fun w' => w'.cell? ⟨b9, 0, none⟩ = some r.vv ∧ w'.cell? ⟨b9, 1, none⟩ = some r.kv ∧ w'.cell? ⟨b9, 2, none⟩ = some r.wv ∧ w'.cell? ⟨b14, 0, none⟩ = some t.vv ∧ w'.cell? ⟨b14, 1, none⟩ = some t.kv ∧ w'.cell? ⟨b14, 2, none⟩ = some t.wv ∧ w'.cell? ⟨b15, 0, none⟩ = some u.vv ∧ w'.cell? ⟨b15, 1, none⟩ = some u.kv ∧ w'.cell? ⟨b15, 2, none⟩ = some u.wv) 45 (by kernel_rfl) (HALL _ (Below.refl _ _).drew) (fun _ => ?_)
    obtain ⟨wd, hwd⟩ : ∃ x : World, wq.drew = x := ⟨_, rfl⟩
    have bD : Below wq.heap.size wq wd := by rw [← hwd]; exact (Below.refl _ _).drew
    rw [hwd]
    clear hwd
    have hHeld := HALL _ bD
    refine any_take (by kernel_rfl) (i := 0) (oi := _) (v := ?_) rfl rfl (by kernel_rfl) (by kernel_rfl) (by kernel_rfl) (fun _ _ _ h => h) (Or.inl ⟨by rfl, ?_⟩) hHeld ?_
    rotate_left
    · intro w' hSw; try dsimp only at hSw
      go_simp
      try with_reducible rfl
    try simp only [puts, gets]
    refine any_take (by kernel_rfl) (i := 1) (oi := _) (v := ?_) rfl rfl (by kernel_rfl) (by kernel_rfl) (by kernel_rfl) (fun _ _ _ h => h) (Or.inl ⟨by rfl, ?_⟩) hHeld ?_
    rotate_left
    · intro w' hSw; try dsimp only at hSw
      go_simp
      try with_reducible rfl
    try simp only [puts, gets]
    refine any_take (by kernel_rfl) (i := 2) (oi := _) (v := ?_) rfl rfl (by kernel_rfl) (by kernel_rfl) (by kernel_rfl) (fun _ _ _ h => h) (Or.inl ⟨by rfl, ?_⟩) hHeld ?_
    rotate_left
    · intro w' hSw; try dsimp only at hSw
      go_simp
      try with_reducible rfl
    try simp only [puts, gets]
    refine any_take (by kernel_rfl) (i := 3) (oi := _) (v := ?_) rfl rfl (by kernel_rfl) (by kernel_rfl) (by kernel_rfl) (fun _ _ _ h => h) (Or.inl ⟨by rfl, ?_⟩) hHeld ?_
    rotate_left
    · intro w' hSw; try dsimp only at hSw
      go_simp
      try with_reducible rfl
    try simp only [puts, gets]
    refine any_take (by kernel_rfl) (i := 5) (oi := _) (v := ?_) rfl rfl (by kernel_rfl) (by kernel_rfl) (by kernel_rfl) (fun _ _ _ h => h) (Or.inl ⟨by rfl, ?_⟩) hHeld ?_
    rotate_left
    · intro w' hSw; try dsimp only at hSw
      go_simp
      try with_reducible rfl
    try simp only [puts, gets]
    refine any_take (by kernel_rfl) (i := 6) (oi := _) (v := ?_) rfl rfl (by kernel_rfl) (by kernel_rfl) (by kernel_rfl) (fun _ _ _ h => h) (Or.inl ⟨by rfl, ?_⟩) hHeld ?_
    rotate_left
    · intro w' hSw; try dsimp only at hSw
      go_simp
      try with_reducible rfl
    try simp only [puts, gets]
    refine any_next (i := 4) (by kernel_rfl) rfl rfl (fun K hK => ?_)
    go_simp
    go_at_call 60
    refine (hV1 _ (hT.keep bD) (hr.keep bD)).mono ?_
    rintro e wq ⟨rfl, bC⟩
    replace bD := below_trans bD bC
    clear bC
    refine hK.out _ _ ?_ (fun hHeld => ?_)
    · exact HALL _ bD
    clear hK K
    try simp only [puts, gets]
    refine any_next (i := 7) (by kernel_rfl) rfl rfl (fun K hK => ?_)
    go_simp
    go_at_call 61
    refine (hV2 _ (hr.keep bD)).mono ?_
    rintro e wq ⟨rfl, bC⟩
    replace bD := below_trans bD bC
    clear bC
    refine hK.out _ _ ?_ (fun hHeld => ?_)
    · exact HALL _ bD
    clear hK K
    try simp only [puts, gets]
    refine any_take (by kernel_rfl) (i := 8) (oi := _) (v := ?_) rfl rfl (by kernel_rfl) (by kernel_rfl) (by kernel_rfl) (fun _ _ _ h => h) (Or.inl ⟨by rfl, ?_⟩) hHeld ?_
    rotate_left
    · intro w' hSw; try dsimp only at hSw
      go_simp
      try with_reducible rfl
    try simp only [puts, gets]
    refine any_take (by kernel_rfl) (i := 9) (oi := _) (v := ?_) rfl rfl (by kernel_rfl) (by kernel_rfl) (by kernel_rfl) (fun _ _ _ h => h) (Or.inl ⟨by rfl, ?_⟩) hHeld ?_
    rotate_left
    · intro w' hSw; try dsimp only at hSw
      go_simp
      try with_reducible rfl
    try simp only [puts, gets]
    refine any_take (by kernel_rfl) (i := 10) (oi := _) (v := ?_) rfl rfl (by kernel_rfl) (by kernel_rfl) (by kernel_rfl) (fun _ _ _ h => h) (Or.inl ⟨by rfl, ?_⟩) hHeld ?_
    rotate_left
    · intro w' hSw; try dsimp only at hSw
      go_simp
      try with_reducible rfl
    try simp only [puts, gets]
    refine any_take (by kernel_rfl) (i := 11) (oi := _) (v := ?_) rfl rfl (by kernel_rfl) (by kernel_rfl) (by kernel_rfl) (fun _ _ _ h => h) (Or.inl ⟨by rfl, ?_⟩) hHeld ?_
    rotate_left
    · intro w' hSw; try dsimp only at hSw
      go_simp
      try with_reducible rfl
    try simp only [puts, gets]
    refine any_take (by kernel_rfl) (i := 12) (oi := _) (v := ?_) rfl rfl (by kernel_rfl) (by kernel_rfl) (by kernel_rfl) (fun _ _ _ h => h) (Or.inl ⟨by rfl, ?_⟩) hHeld ?_
    rotate_left
    · intro w' hSw; try dsimp only at hSw
      go_simp
      try with_reducible rfl
    try simp only [puts, gets]
    refine any_take (by kernel_rfl) (i := 14) (oi := _) (v := ?_) rfl rfl (by kernel_rfl) (by kernel_rfl) (by kernel_rfl) (fun _ _ _ h => h) (Or.inl ⟨by rfl, ?_⟩) hHeld ?_
    rotate_left
    · intro w' hSw; try dsimp only at hSw
      go_simp
      try with_reducible rfl
    try simp only [puts, gets]
    refine any_take (by kernel_rfl) (i := 15) (oi := _) (v := ?_) rfl rfl (by kernel_rfl) (by kernel_rfl) (by kernel_rfl) (fun _ _ _ h => h) (Or.inl ⟨by rfl, ?_⟩) hHeld ?_
    rotate_left
    · intro w' hSw; try dsimp only at hSw
      go_simp
      try with_reducible rfl
    try simp only [puts, gets]
    refine any_next (i := 13) (by kernel_rfl) rfl rfl (fun K hK => ?_)
    go_simp
    go_at_call 62
    refine (hR1 _ (hT.keep bD) (hr.keep bD)).mono ?_
    rintro e wq ⟨u1, l1, rfl, HL1, HE1, bC⟩
    have R1 := HL1.rel (by have := congrArg List.length HE1.out; rw [rows_length] at this; omega)
    clear HL1
    replace bD := below_trans bD bC
    clear bC
    refine hK.out _ _ ?_ (fun hHeld => ?_)
    · exact HALL _ bD
    clear hK K
    try simp only [puts, gets]
    refine any_next (i := 16) (by kernel_rfl) rfl rfl (fun K hK => ?_)
    go_simp
    go_at_call 63
    refine (hR2 _ (hr.keep bD)).mono ?_
    rintro e wq ⟨u2, l2, rfl, R2, HE2, bC⟩
    replace R1 := R1.keep bC
    replace bD := below_trans bD bC
    clear bC
    refine hK.out _ _ ?_ (fun hHeld => ?_)
    · exact HALL _ bD
    clear hK K
    try simp only [puts, gets]
    refine any_next (i := 17) (by kernel_rfl) rfl rfl (fun K hK => ?_)
    go_simp
    go_at_call 24
    refine (rSameR_any _ _ l1 l2 _ R1 R2).mono ?_
    rintro e wq ⟨rfl, bC⟩
    rw [decide_eq_true (HE1.out.trans HE2.out.symm)]
    clear R1 R2
    replace bD := below_trans bD bC
    clear bC
    refine hK.out _ _ ?_ (fun hHeld => ?_)
    · exact HALL _ bD
    clear hK K
    try simp only [puts, gets]
    refine any_take (by kernel_rfl) (i := 18) (oi := _) (v := ?_) rfl rfl (by kernel_rfl) (by kernel_rfl) (by kernel_rfl) (fun _ _ _ h => h) (Or.inl ⟨by rfl, ?_⟩) hHeld ?_
    rotate_left
    · intro w' hSw; try dsimp only at hSw
      go_simp
      try with_reducible rfl
    try simp only [puts, gets]
    refine any_take (by kernel_rfl) (i := 19) (oi := _) (v := ?_) rfl rfl (by kernel_rfl) (by kernel_rfl) (by kernel_rfl) (fun _ _ _ h => h) (Or.inl ⟨by rfl, ?_⟩) hHeld ?_
    rotate_left
    · intro w' hSw; try dsimp only at hSw
      go_simp
      try with_reducible rfl
    try simp only [puts, gets]
    refine any_take (by kernel_rfl) (i := 20) (oi := _) (v := ?_) rfl rfl (by kernel_rfl) (by kernel_rfl) (by kernel_rfl) (fun _ _ _ h => h) (Or.inl ⟨by rfl, ?_⟩) hHeld ?_
    rotate_left
    · intro w' hSw; try dsimp only at hSw
      go_simp
      try with_reducible rfl
    try simp only [puts, gets]
    refine any_take (by kernel_rfl) (i := 21) (oi := _) (v := ?_) rfl rfl (by kernel_rfl) (by kernel_rfl) (by kernel_rfl) (fun _ _ _ h => h) (Or.inl ⟨by rfl, ?_⟩) hHeld ?_
    rotate_left
    · intro w' hSw; try dsimp only at hSw
      go_simp
      try with_reducible rfl
    try simp only [puts, gets]
    refine any_take (by kernel_rfl) (i := 23) (oi := _) (v := ?_) rfl rfl (by kernel_rfl) (by kernel_rfl) (by kernel_rfl) (fun _ _ _ h => h) (Or.inl ⟨by rfl, ?_⟩) hHeld ?_
    rotate_left
    · intro w' hSw; try dsimp only at hSw
      go_simp
      try with_reducible rfl
    try simp only [puts, gets]
    refine any_take (by kernel_rfl) (i := 24) (oi := _) (v := ?_) rfl rfl (by kernel_rfl) (by kernel_rfl) (by kernel_rfl) (fun _ _ _ h => h) (Or.inl ⟨by rfl, ?_⟩) hHeld ?_
    rotate_left
    · intro w' hSw; try dsimp only at hSw
      go_simp
      try with_reducible rfl
    try simp only [puts, gets]
    refine any_next (i := 22) (by kernel_rfl) rfl rfl (fun K hK => ?_)
    go_simp
    go_at_call 62
    refine (hR3 _ (hT.keep bD) (ht.keep bD)).mono ?_
    rintro e wq ⟨u3, l3, rfl, HL3, HE3, bC⟩
    have R3 := HL3.rel (by have := congrArg List.length HE3.out; rw [rows_length] at this; omega)
    clear HL3
    replace bD := below_trans bD bC
    clear bC
    refine hK.out _ _ ?_ (fun hHeld => ?_)
    · exact HALL _ bD
    clear hK K
    try simp only [puts, gets]
    refine any_next (i := 25) (by kernel_rfl) rfl rfl (fun K hK => ?_)
    go_simp
    go_at_call 63
    refine (hR4 _ (ht.keep bD)).mono ?_
    rintro e wq ⟨u4, l4, rfl, R4, HE4, bC⟩
    replace R3 := R3.keep bC
    replace bD := below_trans bD bC
    clear bC
    refine hK.out _ _ ?_ (fun hHeld => ?_)
    · exact HALL _ bD
    clear hK K
    try simp only [puts, gets]
    refine any_next (i := 26) (by kernel_rfl) rfl rfl (fun K hK => ?_)
    go_simp
    go_at_call 24
    refine (rSameR_any _ _ l3 l4 _ R3 R4).mono ?_
    rintro e wq ⟨rfl, bC⟩
    rw [decide_eq_true (HE3.out.trans HE4.out.symm)]
    clear R3 R4
    have hLl : ∀ c ∈ ([t, u] : List TR), c.vs.length ≤ 100000 := by
      intro c hc
      simp only [List.mem_cons, List.not_mem_nil, or_false] at hc
      rcases hc with rfl | rfl
      · exact HLt.out
      · exact HLu.out
    have hLi : ∀ c ∈ ([t, u] : List TR), IncV c.vs := by
      intro c hc
      simp only [List.mem_cons, List.not_mem_nil, or_false] at hc
      rcases hc with rfl | rfl
      · exact HIt.out
      · exact HIu.out
    replace bD := below_trans bD bC
    clear bC
    refine hK.out _ _ ?_ (fun hHeld => ?_)
    · exact HALL _ bD
    clear hK K
    try simp only [puts, gets]
    refine any_take (by kernel_rfl) (i := 27) (oi := _) (v := ?_) rfl rfl (by kernel_rfl) (by kernel_rfl) (by kernel_rfl) (fun _ _ _ h => h) (Or.inl ⟨by rfl, ?_⟩) hHeld ?_
    rotate_left
    · intro w' hSw; try dsimp only at hSw
      go_simp
      try with_reducible rfl
    try simp only [puts, gets]
    refine any_take (by kernel_rfl) (i := 28) (oi := _) (v := ?_) rfl rfl (by kernel_rfl) (by kernel_rfl) (by kernel_rfl) (fun _ _ _ h => h) (Or.inl ⟨by rfl, ?_⟩) hHeld ?_
    rotate_left
    · intro w' hSw; try dsimp only at hSw
      go_simp
      try with_reducible rfl
    try simp only [puts, gets]
    refine any_take (by kernel_rfl) (i := 29) (oi := _) (v := ?_) rfl rfl (by kernel_rfl) (by kernel_rfl) (by kernel_rfl) (fun _ _ _ h => h) (Or.inl ⟨by rfl, ?_⟩) hHeld ?_
    rotate_left
    · intro w' hSw; try dsimp only at hSw
      go_simp
      try with_reducible rfl
    try simp only [puts, gets]
    refine any_take (by kernel_rfl) (i := 30) (oi := _) (v := ?_) rfl rfl (by kernel_rfl) (by kernel_rfl) (by kernel_rfl) (fun _ _ _ h => h) (Or.inl ⟨by rfl, ?_⟩) hHeld ?_
    rotate_left
    · intro w' hSw; try dsimp only at hSw
      go_simp
      try with_reducible rfl
    try simp only [puts, gets]
    refine any_take (by kernel_rfl) (i := 33) (oi := _) (v := ?_) rfl rfl (by kernel_rfl) (by kernel_rfl) (by kernel_rfl) (fun _ _ _ h => h) (Or.inl ⟨by rfl, ?_⟩) hHeld ?_
    rotate_left
    · intro w' hSw; try dsimp only at hSw
      go_simp
      try with_reducible rfl
    try simp only [puts, gets]
    refine any_take (by kernel_rfl) (i := 34) (oi := _) (v := ?_) rfl rfl (by kernel_rfl) (by kernel_rfl) (by kernel_rfl) (fun _ _ _ h => h) (Or.inl ⟨by rfl, ?_⟩) hHeld ?_
    rotate_left
    · intro w' hSw; try dsimp only at hSw
      go_simp
      try with_reducible rfl
    try simp only [puts, gets]
    refine any_two (i := 31) (j := 35) (by kernel_rfl) rfl rfl rfl rfl (fun K hK => ?_) (fun K hK => ?_)
    · have bX := below_new wq (.cells #[t.vv, t.kv, t.wv, u.vv, u.kv, u.wv] 64)
      have hL1 : IsTries (wq.alloc (.cells #[t.vv, t.kv, t.wv, u.vv, u.kv, u.wv] 64)) (.slice (some ⟨wq.heap.size, 0, none⟩) 2 2) [t, u] := isTries_lit (l := [t, u]) (by simp) (by
        intro c hc
        simp only [List.mem_cons, List.not_mem_nil, or_false] at hc
        rcases hc with rfl | rfl
        · exact ht.keep bD
        · exact hu.keep bD)
      go_simp
      replace bD := bD.trans (bX.mono bD.size)
      clear bX
      obtain ⟨wl, hwq⟩ : ∃ z : World, z = wq.alloc (.cells #[t.vv, t.kv, t.wv, u.vv, u.kv, u.wv] 64) := ⟨_, rfl⟩
      rw [← hwq] at bD hL1
      rw [← hwq]
      obtain ⟨g_hL1, hg⟩ : ∃ g, wq.heap.size = g := ⟨_, rfl⟩
      rw [hg] at hL1
      rw [hg]
      clear hg hwq
      refine hK.out _ _ ?_ (fun hHeld => ?_)
      · exact HALL _ bD
      clear hK K
      try simp only [puts, gets]
      refine any_two (i := 32) (j := 35) (by kernel_rfl) rfl rfl rfl rfl (fun K hK => ?_) (fun K hK => ?_)
      · go_simp
        go_at_call 65
        refine (Common_any _ [t, u] _ hL1 hLl hLi (by simp)).mono ?_
        rintro e wq ⟨u5, L5, rfl, hU5, HC5, bC⟩
        clear hL1
        replace bD := below_trans bD bC
        clear bC
        refine hK.out _ _ ?_ (fun hHeld => ?_)
        · exact HALL _ bD
        clear hK K
        try simp only [puts, gets]
        refine any_next (i := 35) (by kernel_rfl) rfl rfl (fun K hK => ?_)
        have bX := below_new wq (.cells #[t.vv, t.kv, t.wv, u.vv, u.kv, u.wv] 64)
        have hL2 : IsTries (wq.alloc (.cells #[t.vv, t.kv, t.wv, u.vv, u.kv, u.wv] 64)) (.slice (some ⟨wq.heap.size, 0, none⟩) 2 2) [t, u] := isTries_lit (l := [t, u]) (by simp) (by
          intro c hc
          simp only [List.mem_cons, List.not_mem_nil, or_false] at hc
          rcases hc with rfl | rfl
          · exact ht.keep bD
          · exact hu.keep bD)
        go_simp
        replace bD := bD.trans (bX.mono bD.size)
        replace hU5 := hU5.keep bX
        clear bX
        obtain ⟨wm, hwq⟩ : ∃ z : World, z = wq.alloc (.cells #[t.vv, t.kv, t.wv, u.vv, u.kv, u.wv] 64) := ⟨_, rfl⟩
        rw [← hwq] at bD hL2 hU5
        rw [← hwq]
        obtain ⟨g_hL2, hg⟩ : ∃ g, wq.heap.size = g := ⟨_, rfl⟩
        rw [hg] at hL2
        rw [hg]
        clear hg hwq
        refine hK.out _ _ ?_ (fun hHeld => ?_)
        · exact HALL _ bD
        clear hK K
        try simp only [puts, gets]
        refine any_next (i := 36) (by kernel_rfl) rfl rfl (fun K hK => ?_)
        go_simp
        go_at_call 66
        refine (rCommon_any _ [t, u] _ hL2 hLl (by simp)).mono ?_
        rintro e wq ⟨u6, L6, rfl, hU6, HC6, bC⟩
        replace hU5 := hU5.keep bC
        clear hL2
        replace bD := below_trans bD bC
        clear bC
        refine hK.out _ _ ?_ (fun hHeld => ?_)
        · exact HALL _ bD
        clear hK K
        try simp only [puts, gets]
        refine any_next (i := 37) (by kernel_rfl) rfl rfl (fun K hK => ?_)
        go_simp
        go_at_call 64
        refine (SameValues_any _ _ L5 L6 _ hU5 hU6).mono ?_
        rintro e wq ⟨rfl, bC⟩
        rw [decide_eq_true (HC5.out.trans HC6.out.symm)]
        clear hU5 hU6
        replace bD := below_trans bD bC
        clear bC
        refine hK.out _ _ ?_ (fun hHeld => ?_)
        · exact HALL _ bD
        clear hK K
        try simp only [puts, gets]
        refine any_take (by kernel_rfl) (i := 38) (oi := _) (v := ?_) rfl rfl (by kernel_rfl) (by kernel_rfl) (by kernel_rfl) (fun _ _ _ h => h) (Or.inl ⟨by rfl, ?_⟩) hHeld ?_
        rotate_left
        · intro w' hSw; try dsimp only at hSw
          go_simp
          try with_reducible rfl
        try simp only [puts, gets]
        refine any_take (by kernel_rfl) (i := 39) (oi := _) (v := ?_) rfl rfl (by kernel_rfl) (by kernel_rfl) (by kernel_rfl) (fun _ _ _ h => h) (Or.inl ⟨by rfl, ?_⟩) hHeld ?_
        rotate_left
        · intro w' hSw; try dsimp only at hSw
          go_simp
          try with_reducible rfl
        try simp only [puts, gets]
        refine any_next (i := 40) (by kernel_rfl) rfl rfl (fun K hK => ?_)
        go_simp
        go_at_call 65
        refine (Common_any _ [] _ (IsTries.nil _) (by simp) (by simp) (by simp)).mono ?_
        rintro e wq ⟨u7, L7, rfl, hU7, HC7, bC⟩
        obtain ⟨p7, c7, rfl, -⟩ := id hU7
        obtain rfl : L7 = [] := HC7.out
        clear hU7 HC7
        replace bD := below_trans bD bC
        clear bC
        refine hK.out _ _ ?_ (fun hHeld => ?_)
        · exact HALL _ bD
        clear hK K
        try simp only [puts, gets]
        refine any_take (by kernel_rfl) (i := 41) (oi := _) (v := ?_) rfl rfl (by kernel_rfl) (by kernel_rfl) (by kernel_rfl) (fun _ _ _ h => h) (Or.inl ⟨by rfl, ?_⟩) hHeld ?_
        rotate_left
        · intro w' hSw; try dsimp only at hSw
          go_simp
          try with_reducible rfl
        try simp only [puts, gets]
        refine any_take (by kernel_rfl) (i := 42) (oi := _) (v := ?_) rfl rfl (by kernel_rfl) (by kernel_rfl) (by kernel_rfl) (fun _ _ _ h => h) (Or.inl ⟨by rfl, ?_⟩) hHeld ?_
        rotate_left
        · intro w' hSw; try dsimp only at hSw
          go_simp
          try with_reducible rfl
        try simp only [puts, gets]
        refine any_take (by kernel_rfl) (i := 43) (oi := _) (v := ?_) rfl rfl (by kernel_rfl) (by kernel_rfl) (by kernel_rfl) (fun _ _ _ h => h) (Or.inl ⟨by rfl, ?_⟩) hHeld ?_
        rotate_left
        · intro w' hSw; try dsimp only at hSw
          go_simp
          try with_reducible rfl
        try simp only [puts, gets]
        refine any_take (by kernel_rfl) (i := 44) (oi := _) (v := ?_) rfl rfl (by kernel_rfl) (by kernel_rfl) (by kernel_rfl) (fun _ _ _ h => h) (Or.inl ⟨by rfl, ?_⟩) hHeld ?_
        rotate_left
        · intro w' hSw; try dsimp only at hSw
          go_simp
          try with_reducible rfl
        try simp only [puts, gets]
        refine any_done (by kernel_rfl) ?_ _
        refine NoPanic.normal ?_
        go_wp2
        go_ret
        exact ⟨rfl, below_trans B1 bD⟩
      · have bX := below_new wl (.cells #[t.vv, t.kv, t.wv, u.vv, u.kv, u.wv] 64)
        have hL2 : IsTries (wl.alloc (.cells #[t.vv, t.kv, t.wv, u.vv, u.kv, u.wv] 64)) (.slice (some ⟨wl.heap.size, 0, none⟩) 2 2) [t, u] := isTries_lit (l := [t, u]) (by simp) (by
          intro c hc
          simp only [List.mem_cons, List.not_mem_nil, or_false] at hc
          rcases hc with rfl | rfl
          · exact ht.keep bD
          · exact hu.keep bD)
        go_simp
        replace bD := bD.trans (bX.mono bD.size)
        replace hL1 := hL1.keep bX
        clear bX
        obtain ⟨wm, hwq⟩ : ∃ z : World, z = wl.alloc (.cells #[t.vv, t.kv, t.wv, u.vv, u.kv, u.wv] 64) := ⟨_, rfl⟩
        rw [← hwq] at bD hL2 hL1
        rw [← hwq]
        obtain ⟨g_hL2, hg⟩ : ∃ g, wl.heap.size = g := ⟨_, rfl⟩
        rw [hg] at hL2
        rw [hg]
        clear hg hwq
        refine hK.out _ _ ?_ (fun hHeld => ?_)
        · exact HALL _ bD
        clear hK K
        try simp only [puts, gets]
        refine any_next (i := 32) (by kernel_rfl) rfl rfl (fun K hK => ?_)
        go_simp
        go_at_call 65
        refine (Common_any _ [t, u] _ hL1 hLl hLi (by simp)).mono ?_
        rintro e wq ⟨u5, L5, rfl, hU5, HC5, bC⟩
        replace hL2 := hL2.keep bC
        clear hL1
        replace bD := below_trans bD bC
        clear bC
        refine hK.out _ _ ?_ (fun hHeld => ?_)
        · exact HALL _ bD
        clear hK K
        try simp only [puts, gets]
        refine any_next (i := 36) (by kernel_rfl) rfl rfl (fun K hK => ?_)
        go_simp
        go_at_call 66
        refine (rCommon_any _ [t, u] _ hL2 hLl (by simp)).mono ?_
        rintro e wq ⟨u6, L6, rfl, hU6, HC6, bC⟩
        replace hU5 := hU5.keep bC
        clear hL2
        replace bD := below_trans bD bC
        clear bC
        refine hK.out _ _ ?_ (fun hHeld => ?_)
        · exact HALL _ bD
        clear hK K
        try simp only [puts, gets]
        refine any_next (i := 37) (by kernel_rfl) rfl rfl (fun K hK => ?_)
        go_simp
        go_at_call 64
        refine (SameValues_any _ _ L5 L6 _ hU5 hU6).mono ?_
        rintro e wq ⟨rfl, bC⟩
        rw [decide_eq_true (HC5.out.trans HC6.out.symm)]
        clear hU5 hU6
        replace bD := below_trans bD bC
        clear bC
        refine hK.out _ _ ?_ (fun hHeld => ?_)
        · exact HALL _ bD
        clear hK K
        try simp only [puts, gets]
        refine any_take (by kernel_rfl) (i := 38) (oi := _) (v := ?_) rfl rfl (by kernel_rfl) (by kernel_rfl) (by kernel_rfl) (fun _ _ _ h => h) (Or.inl ⟨by rfl, ?_⟩) hHeld ?_
        rotate_left
        · intro w' hSw; try dsimp only at hSw
          go_simp
          try with_reducible rfl
        try simp only [puts, gets]
        refine any_take (by kernel_rfl) (i := 39) (oi := _) (v := ?_) rfl rfl (by kernel_rfl) (by kernel_rfl) (by kernel_rfl) (fun _ _ _ h => h) (Or.inl ⟨by rfl, ?_⟩) hHeld ?_
        rotate_left
        · intro w' hSw; try dsimp only at hSw
          go_simp
          try with_reducible rfl
        try simp only [puts, gets]
        refine any_next (i := 40) (by kernel_rfl) rfl rfl (fun K hK => ?_)
        go_simp
        go_at_call 65
        refine (Common_any _ [] _ (IsTries.nil _) (by simp) (by simp) (by simp)).mono ?_
        rintro e wq ⟨u7, L7, rfl, hU7, HC7, bC⟩
        obtain ⟨p7, c7, rfl, -⟩ := id hU7
        obtain rfl : L7 = [] := HC7.out
        clear hU7 HC7
        replace bD := below_trans bD bC
        clear bC
        refine hK.out _ _ ?_ (fun hHeld => ?_)
        · exact HALL _ bD
        clear hK K
        try simp only [puts, gets]
        refine any_take (by kernel_rfl) (i := 41) (oi := _) (v := ?_) rfl rfl (by kernel_rfl) (by kernel_rfl) (by kernel_rfl) (fun _ _ _ h => h) (Or.inl ⟨by rfl, ?_⟩) hHeld ?_
        rotate_left
        · intro w' hSw; try dsimp only at hSw
          go_simp
          try with_reducible rfl
        try simp only [puts, gets]
        refine any_take (by kernel_rfl) (i := 42) (oi := _) (v := ?_) rfl rfl (by kernel_rfl) (by kernel_rfl) (by kernel_rfl) (fun _ _ _ h => h) (Or.inl ⟨by rfl, ?_⟩) hHeld ?_
        rotate_left
        · intro w' hSw; try dsimp only at hSw
          go_simp
          try with_reducible rfl
        try simp only [puts, gets]
        refine any_take (by kernel_rfl) (i := 43) (oi := _) (v := ?_) rfl rfl (by kernel_rfl) (by kernel_rfl) (by kernel_rfl) (fun _ _ _ h => h) (Or.inl ⟨by rfl, ?_⟩) hHeld ?_
        rotate_left
        · intro w' hSw; try dsimp only at hSw
          go_simp
          try with_reducible rfl
        try simp only [puts, gets]
        refine any_take (by kernel_rfl) (i := 44) (oi := _) (v := ?_) rfl rfl (by kernel_rfl) (by kernel_rfl) (by kernel_rfl) (fun _ _ _ h => h) (Or.inl ⟨by rfl, ?_⟩) hHeld ?_
        rotate_left
        · intro w' hSw; try dsimp only at hSw
          go_simp
          try with_reducible rfl
        try simp only [puts, gets]
        refine any_done (by kernel_rfl) ?_ _
        refine NoPanic.normal ?_
        go_wp2
        go_ret
        exact ⟨rfl, below_trans B1 bD⟩
    · have bX := below_new wq (.cells #[t.vv, t.kv, t.wv, u.vv, u.kv, u.wv] 64)
      have hL2 : IsTries (wq.alloc (.cells #[t.vv, t.kv, t.wv, u.vv, u.kv, u.wv] 64)) (.slice (some ⟨wq.heap.size, 0, none⟩) 2 2) [t, u] := isTries_lit (l := [t, u]) (by simp) (by
        intro c hc
        simp only [List.mem_cons, List.not_mem_nil, or_false] at hc
        rcases hc with rfl | rfl
        · exact ht.keep bD
        · exact hu.keep bD)
      go_simp
      replace bD := bD.trans (bX.mono bD.size)
      clear bX
      obtain ⟨wm, hwq⟩ : ∃ z : World, z = wq.alloc (.cells #[t.vv, t.kv, t.wv, u.vv, u.kv, u.wv] 64) := ⟨_, rfl⟩
      rw [← hwq] at bD hL2
      rw [← hwq]
      obtain ⟨g_hL2, hg⟩ : ∃ g, wq.heap.size = g := ⟨_, rfl⟩
      rw [hg] at hL2
      rw [hg]
      clear hg hwq
      refine hK.out _ _ ?_ (fun hHeld => ?_)
      · exact HALL _ bD
      clear hK K
      try simp only [puts, gets]
      refine any_next (i := 31) (by kernel_rfl) rfl rfl (fun K hK => ?_)
      have bX := below_new wm (.cells #[t.vv, t.kv, t.wv, u.vv, u.kv, u.wv] 64)
      have hL1 : IsTries (wm.alloc (.cells #[t.vv, t.kv, t.wv, u.vv, u.kv, u.wv] 64)) (.slice (some ⟨wm.heap.size, 0, none⟩) 2 2) [t, u] := isTries_lit (l := [t, u]) (by simp) (by
        intro c hc
        simp only [List.mem_cons, List.not_mem_nil, or_false] at hc
        rcases hc with rfl | rfl
        · exact ht.keep bD
        · exact hu.keep bD)
      go_simp
      replace bD := bD.trans (bX.mono bD.size)
      replace hL2 := hL2.keep bX
      clear bX
      obtain ⟨wl, hwq⟩ : ∃ z : World, z = wm.alloc (.cells #[t.vv, t.kv, t.wv, u.vv, u.kv, u.wv] 64) := ⟨_, rfl⟩
      rw [← hwq] at bD hL1 hL2
      rw [← hwq]
      obtain ⟨g_hL1, hg⟩ : ∃ g, wm.heap.size = g := ⟨_, rfl⟩
      rw [hg] at hL1
      rw [hg]
      clear hg hwq
      refine hK.out _ _ ?_ (fun hHeld => ?_)
      · exact HALL _ bD
      clear hK K
      try simp only [puts, gets]
      refine any_next (i := 32) (by kernel_rfl) rfl rfl (fun K hK => ?_)
      go_simp
      go_at_call 65
      refine (Common_any _ [t, u] _ hL1 hLl hLi (by simp)).mono ?_
      rintro e wq ⟨u5, L5, rfl, hU5, HC5, bC⟩
      replace hL2 := hL2.keep bC
      clear hL1
      replace bD := below_trans bD bC
      clear bC
      refine hK.out _ _ ?_ (fun hHeld => ?_)
      · exact HALL _ bD
      clear hK K
      try simp only [puts, gets]
      refine any_next (i := 36) (by kernel_rfl) rfl rfl (fun K hK => ?_)
      go_simp
      go_at_call 66
      refine (rCommon_any _ [t, u] _ hL2 hLl (by simp)).mono ?_
      rintro e wq ⟨u6, L6, rfl, hU6, HC6, bC⟩
      replace hU5 := hU5.keep bC
      clear hL2
      replace bD := below_trans bD bC
      clear bC
      refine hK.out _ _ ?_ (fun hHeld => ?_)
      · exact HALL _ bD
      clear hK K
      try simp only [puts, gets]
      refine any_next (i := 37) (by kernel_rfl) rfl rfl (fun K hK => ?_)
      go_simp
      go_at_call 64
      refine (SameValues_any _ _ L5 L6 _ hU5 hU6).mono ?_
      rintro e wq ⟨rfl, bC⟩
      rw [decide_eq_true (HC5.out.trans HC6.out.symm)]
      clear hU5 hU6
      replace bD := below_trans bD bC
      clear bC
      refine hK.out _ _ ?_ (fun hHeld => ?_)
      · exact HALL _ bD
      clear hK K
      try simp only [puts, gets]
      refine any_take (by kernel_rfl) (i := 38) (oi := _) (v := ?_) rfl rfl (by kernel_rfl) (by kernel_rfl) (by kernel_rfl) (fun _ _ _ h => h) (Or.inl ⟨by rfl, ?_⟩) hHeld ?_
      rotate_left
      · intro w' hSw; try dsimp only at hSw
        go_simp
        try with_reducible rfl
      try simp only [puts, gets]
      refine any_take (by kernel_rfl) (i := 39) (oi := _) (v := ?_) rfl rfl (by kernel_rfl) (by kernel_rfl) (by kernel_rfl) (fun _ _ _ h => h) (Or.inl ⟨by rfl, ?_⟩) hHeld ?_
      rotate_left
      · intro w' hSw; try dsimp only at hSw
        go_simp
        try with_reducible rfl
      try simp only [puts, gets]
      refine any_next (i := 40) (by kernel_rfl) rfl rfl (fun K hK => ?_)
      go_simp
      go_at_call 65
      refine (Common_any _ [] _ (IsTries.nil _) (by simp) (by simp) (by simp)).mono ?_
      rintro e wq ⟨u7, L7, rfl, hU7, HC7, bC⟩
      obtain ⟨p7, c7, rfl, -⟩ := id hU7
      obtain rfl : L7 = [] := HC7.out
      clear hU7 HC7
      replace bD := below_trans bD bC
      clear bC
      refine hK.out _ _ ?_ (fun hHeld => ?_)
      · exact HALL _ bD
      clear hK K
      try simp only [puts, gets]
      refine any_take (by kernel_rfl) (i := 41) (oi := _) (v := ?_) rfl rfl (by kernel_rfl) (by kernel_rfl) (by kernel_rfl) (fun _ _ _ h => h) (Or.inl ⟨by rfl, ?_⟩) hHeld ?_
      rotate_left
      · intro w' hSw; try dsimp only at hSw
        go_simp
        try with_reducible rfl
      try simp only [puts, gets]
      refine any_take (by kernel_rfl) (i := 42) (oi := _) (v := ?_) rfl rfl (by kernel_rfl) (by kernel_rfl) (by kernel_rfl) (fun _ _ _ h => h) (Or.inl ⟨by rfl, ?_⟩) hHeld ?_
      rotate_left
      · intro w' hSw; try dsimp only at hSw
        go_simp
        try with_reducible rfl
      try simp only [puts, gets]
      refine any_take (by kernel_rfl) (i := 43) (oi := _) (v := ?_) rfl rfl (by kernel_rfl) (by kernel_rfl) (by kernel_rfl) (fun _ _ _ h => h) (Or.inl ⟨by rfl, ?_⟩) hHeld ?_
      rotate_left
      · intro w' hSw; try dsimp only at hSw
        go_simp
        try with_reducible rfl
      try simp only [puts, gets]
      refine any_take (by kernel_rfl) (i := 44) (oi := _) (v := ?_) rfl rfl (by kernel_rfl) (by kernel_rfl) (by kernel_rfl) (fun _ _ _ h => h) (Or.inl ⟨by rfl, ?_⟩) hHeld ?_
      rotate_left
      · intro w' hSw; try dsimp only at hSw
        go_simp
        try with_reducible rfl
      try simp only [puts, gets]
      refine any_done (by kernel_rfl) ?_ _
      refine NoPanic.normal ?_
      go_wp2
      go_ret
      exact ⟨rfl, below_trans B1 bD⟩
end Go.Proofs.YtdibijhaiaiifaaDoor
