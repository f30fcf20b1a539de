/- The walk of the law TrieCommon. -/
import Derived.Test.YtdibijhaiaiifaaDoorJ31
import Derived.Test.YtdibijhaiaiifaaDoorJ30
namespace Go.Proofs.YtdibijhaiaiifaaDoor
open Go.RowKit
theorem isTries_lit {w : World} {l : List TR} (hl : l.length ≤ 9223372036854775807) (h : ∀ x ∈ l, TrOk w x) : IsTries (w.alloc (.cells (l.flatMap encK).toArray 64)) (.slice (some ⟨w.heap.size, 0, none⟩) l.length l.length) l :=
  ⟨IsRows.lit w l encsK hl, fun x hx => (h x hx).keep (below_new _ _)⟩
theorem starts_mem {columns : Int} {va : Value} {xs : List RR} {x : TR} (h0 : 0 ≤ columns) (h4 : columns ≤ 4) (hB : BuiltOf columns xs x.tr) (sa : Sml 10000 xs) (v : Vl) (w : World) (hT : Tab w) (ha : IsRel w va xs) : Calls Tryd.prog 68 #[.int .i64 columns, va, valV v] w fun e w' => e = .returned (.bool (decide (v ∈ x.vs))) ∧ Below w.heap.size w w' :=
  (starts_any columns va xs v w hT ha sa).mono fun e w' ⟨b, he, h, hb⟩ => by
    obtain ⟨zs, hz, hi⟩ := h.out
    refine ⟨?_, hb⟩
    have := firsts h0 h4 hB hz v
    rw [TR.tr_vs] at this
    rw [he]
    congr 2
    rw [Bool.eq_iff_iff, hi, decide_eq_true_iff, this]
theorem starts_aftB {columns : Int} {va : Value} {xs : List RR} {x : TR} {W : World} {v : Vl} {b : Bool} (h0 : 0 ≤ columns) (h4 : columns ≤ 4) (hB : BuiltOf columns xs x.tr) (sa : Sml 10000 xs) (hT : Tab W) (ha : IsRel W va xs) (hb : decide (v ∈ x.vs) = b) (p : AftB W) : Calls Tryd.prog 68 #[.int .i64 columns, va, .agg #[.int .i64 v.t, .int .i64 v.n, .string ⟨v.s.toArray⟩]] p.w' fun e w'' => e = .returned (.bool b) ∧ ∃ q : AftB W, w'' = q.w' := by
  subst hb
  exact AftB.call (starts_mem h0 h4 hB sa v p.w' (hT.keep p.ok) (ha.keep p.ok))
set_option maxHeartbeats 16000000 in
set_option maxRecDepth 1000000 in
theorem law14_any (columns : Int) (va vb vc : Value) (v : Vl) (xs ys zs : List RR) (w : World) (hT : Tab w) (ha : IsRel w va xs) (hb : IsRel w vb ys) (hc : IsRel w vc zs) : Calls Tryd.prog 14 #[.int .i64 columns, va, vb, vc, valV v] w fun e w' => e = .returned (.bool true) ∧ Below w.heap.size w w' := by
  obtain ⟨pa, ca, rfl, -⟩ := ha.shape
  obtain ⟨pb, cb, rfl, -⟩ := hb.shape
  obtain ⟨pc, cc, rfl, -⟩ := hc.shape
  unfold valV strV
  have CV := Cel.new w 58 [.int .i64 v.t, .int .i64 v.n, .string ⟨v.s.toArray⟩]
  have bN := below_new w (.cells #[.int .i64 v.t, .int .i64 v.n, .string ⟨v.s.toArray⟩] 58)
  go_enter Tryd.func14, Tryd.ntmps14
  go_upto_region 1 with fail
  obtain ⟨w9, hw⟩ : ∃ zz, w.alloc (.cells #[.int .i64 v.t, .int .i64 v.n, .string ⟨v.s.toArray⟩] 58) = zz := ⟨_, rfl⟩
  replace CV : Cel w9 w.heap.size 58 [.int .i64 v.t, .int .i64 v.n, .string ⟨v.s.toArray⟩] := by rw [← hw]; exact CV
  rw [hw] at bN
  rw [hw]
  clear hw
  have B1 := bN
  obtain ⟨b9, hb9⟩ : ∃ g, w.heap.size = g := ⟨_, rfl⟩
  rw [hb9] at CV
  rw [hb9]
  clear hb9
  replace hT := hT.keep bN
  replace ha := ha.keep bN
  replace hb := hb.keep bN
  replace hc := hc.keep bN
  clear bN
  have v0 := CV.at_ (j := 0) rfl
  have v1 := CV.at_ (j := 1) rfl
  have v2 := CV.at_ (j := 2) rfl
  go_wp2_with fail
  refine (thead_any _ hT).mono ?_
  rintro e w1 ⟨rfl, bN⟩
  replace hT := hT.keep bN
  replace ha := ha.keep bN
  replace hb := hb.keep bN
  replace hc := hc.keep bN
  replace CV := CV.keep bN
  replace v0 := CV.at_ (j := 0) rfl
  replace v1 := CV.at_ (j := 1) rfl
  replace v2 := CV.at_ (j := 2) rfl
  replace B1 := below_trans B1 bN
  clear bN
  go_wp2_with fail
  refine (fewR_any _ xs _ ha).mono ?_
  rintro e w2 ⟨rfl, bN⟩
  replace hT := hT.keep bN
  replace ha := ha.keep bN
  replace hb := hb.keep bN
  replace hc := hc.keep bN
  replace CV := CV.keep bN
  replace v0 := CV.at_ (j := 0) rfl
  replace v1 := CV.at_ (j := 1) rfl
  replace v2 := CV.at_ (j := 2) rfl
  replace B1 := below_trans B1 bN
  clear bN
  cases hf : fewR xs
  · clear hf
    go_wp2
    go_ret
    exact ⟨rfl, B1⟩
  have HX4 := Lib.hid (fewR_sml hf)
  have HX := Lib.hid ((fewR_sml hf).mono (m := 10000) (by decide))
  clear hf
  go_wp2_with fail
  refine (fewR_any _ ys _ hb).mono ?_
  rintro e w2 ⟨rfl, bN⟩
  replace hT := hT.keep bN
  replace ha := ha.keep bN
  replace hb := hb.keep bN
  replace hc := hc.keep bN
  replace CV := CV.keep bN
  replace v0 := CV.at_ (j := 0) rfl
  replace v1 := CV.at_ (j := 1) rfl
  replace v2 := CV.at_ (j := 2) rfl
  replace B1 := below_trans B1 bN
  clear bN
  cases hf : fewR ys
  · clear hf
    go_wp2
    go_ret
    exact ⟨rfl, B1⟩
  have HY4 := Lib.hid (fewR_sml hf)
  have HY := Lib.hid ((fewR_sml hf).mono (m := 10000) (by decide))
  clear hf
  go_wp2_with fail
  refine (fewR_any _ zs _ hc).mono ?_
  rintro e w2 ⟨rfl, bN⟩
  replace hT := hT.keep bN
  replace ha := ha.keep bN
  replace hb := hb.keep bN
  replace hc := hc.keep bN
  replace CV := CV.keep bN
  replace v0 := CV.at_ (j := 0) rfl
  replace v1 := CV.at_ (j := 1) rfl
  replace v2 := CV.at_ (j := 2) rfl
  replace B1 := below_trans B1 bN
  clear bN
  cases hf : fewR zs
  · clear hf
    go_wp2
    go_ret
    exact ⟨rfl, B1⟩
  have HZ4 := Lib.hid (fewR_sml hf)
  have HZ := Lib.hid ((fewR_sml hf).mono (m := 10000) (by decide))
  clear hf
  by_cases hcc : 0 ≤ columns ∧ columns ≤ 4
  case neg =>
    by_cases hd1 : columns < 0
    · clear hcc
      go_wp2
      go_ret
      exact ⟨rfl, B1⟩
    · have hd2 : 4 < columns := by omega
      clear hcc
      go_wp2
      go_ret
      exact ⟨rfl, B1⟩
  obtain ⟨hc0, hc4⟩ := hcc
  have hd1 : ¬ columns < 0 := by omega
  have hd2 : ¬ 4 < columns := by omega
  have hd3 : decide (columns < 0) = false := decide_eq_false hd1
  have hd4 : decide (4 < columns) = false := decide_eq_false hd2
  go_wp2_with fail
  refine (TBuild_any _ columns xs _ hT ha HX.out).mono ?_
  rintro e wx ⟨x, rfl, hx, HBx, bN⟩
  unfold trV
  replace hT := hT.keep bN
  replace ha := ha.keep bN
  replace hb := hb.keep bN
  replace hc := hc.keep bN
  replace CV := CV.keep bN
  replace v0 := CV.at_ (j := 0) rfl
  replace v1 := CV.at_ (j := 1) rfl
  replace v2 := CV.at_ (j := 2) rfl
  replace B1 := below_trans B1 bN
  clear bN
  have CX := Cel.new wx 64 [x.vv, x.kv, x.wv]
  have bN := below_new wx (.cells #[x.vv, x.kv, x.wv] 64)
  go_upto_region 5 with fail
  obtain ⟨wb12, hw⟩ : ∃ zz, wx.alloc (.cells #[x.vv, x.kv, x.wv] 64) = zz := ⟨_, rfl⟩
  replace CX : Cel wb12 wx.heap.size 64 [x.vv, x.kv, x.wv] := by rw [← hw]; exact CX
  rw [hw] at bN
  try rw [hw]
  clear hw
  obtain ⟨b12, hb⟩ : ∃ g, wx.heap.size = g := ⟨_, rfl⟩
  rw [hb] at CX
  try rw [hb]
  clear hb
  replace hT := hT.keep bN
  replace ha := ha.keep bN
  replace hb := hb.keep bN
  replace hc := hc.keep bN
  replace hx := hx.keep bN
  replace CV := CV.keep bN
  replace v0 := CV.at_ (j := 0) rfl
  replace v1 := CV.at_ (j := 1) rfl
  replace v2 := CV.at_ (j := 2) rfl
  replace B1 := below_trans B1 bN
  clear bN
  have cx0 := CX.at_ (j := 0) rfl
  have cx1 := CX.at_ (j := 1) rfl
  have cx2 := CX.at_ (j := 2) rfl
  go_wp2_with fail
  refine (TBuild_any _ columns ys _ hT hb HY.out).mono ?_
  rintro e wy ⟨y, rfl, hy, HBy, bN⟩
  unfold trV
  replace hT := hT.keep bN
  replace ha := ha.keep bN
  replace hb := hb.keep bN
  replace hc := hc.keep bN
  replace hx := hx.keep bN
  replace CV := CV.keep bN
  replace v0 := CV.at_ (j := 0) rfl
  replace v1 := CV.at_ (j := 1) rfl
  replace v2 := CV.at_ (j := 2) rfl
  replace CX := CX.keep bN
  replace cx0 := CX.at_ (j := 0) rfl
  replace cx1 := CX.at_ (j := 1) rfl
  replace cx2 := CX.at_ (j := 2) rfl
  replace B1 := below_trans B1 bN
  clear bN
  have CY := Cel.new wy 64 [y.vv, y.kv, y.wv]
  have bN := below_new wy (.cells #[y.vv, y.kv, y.wv] 64)
  go_upto_region 6 with fail
  obtain ⟨wb13, hw⟩ : ∃ zz, wy.alloc (.cells #[y.vv, y.kv, y.wv] 64) = zz := ⟨_, rfl⟩
  replace CY : Cel wb13 wy.heap.size 64 [y.vv, y.kv, y.wv] := by rw [← hw]; exact CY
  rw [hw] at bN
  try rw [hw]
  clear hw
  obtain ⟨b13, hb⟩ : ∃ g, wy.heap.size = g := ⟨_, rfl⟩
  rw [hb] at CY
  try rw [hb]
  clear hb
  replace hT := hT.keep bN
  replace ha := ha.keep bN
  replace hb := hb.keep bN
  replace hc := hc.keep bN
  replace hx := hx.keep bN
  replace hy := hy.keep bN
  replace CV := CV.keep bN
  replace v0 := CV.at_ (j := 0) rfl
  replace v1 := CV.at_ (j := 1) rfl
  replace v2 := CV.at_ (j := 2) rfl
  replace CX := CX.keep bN
  replace cx0 := CX.at_ (j := 0) rfl
  replace cx1 := CX.at_ (j := 1) rfl
  replace cx2 := CX.at_ (j := 2) rfl
  replace B1 := below_trans B1 bN
  clear bN
  have cy0 := CY.at_ (j := 0) rfl
  have cy1 := CY.at_ (j := 1) rfl
  have cy2 := CY.at_ (j := 2) rfl
  go_wp2_with fail
  refine (TBuild_any _ columns zs _ hT hc HZ.out).mono ?_
  rintro e wz ⟨z, rfl, hz, HBz, bN⟩
  unfold trV
  replace hT := hT.keep bN
  replace ha := ha.keep bN
  replace hb := hb.keep bN
  replace hc := hc.keep bN
  replace hx := hx.keep bN
  replace hy := hy.keep bN
  replace CV := CV.keep bN
  replace v0 := CV.at_ (j := 0) rfl
  replace v1 := CV.at_ (j := 1) rfl
  replace v2 := CV.at_ (j := 2) rfl
  replace CX := CX.keep bN
  replace cx0 := CX.at_ (j := 0) rfl
  replace cx1 := CX.at_ (j := 1) rfl
  replace cx2 := CX.at_ (j := 2) rfl
  replace CY := CY.keep bN
  replace cy0 := CY.at_ (j := 0) rfl
  replace cy1 := CY.at_ (j := 1) rfl
  replace cy2 := CY.at_ (j := 2) rfl
  replace B1 := below_trans B1 bN
  clear bN
  have CZ := Cel.new wz 64 [z.vv, z.kv, z.wv]
  have bN := below_new wz (.cells #[z.vv, z.kv, z.wv] 64)
  go_upto_region 7 with fail
  obtain ⟨wb14, hw⟩ : ∃ zz, wz.alloc (.cells #[z.vv, z.kv, z.wv] 64) = zz := ⟨_, rfl⟩
  replace CZ : Cel wb14 wz.heap.size 64 [z.vv, z.kv, z.wv] := by rw [← hw]; exact CZ
  rw [hw] at bN
  try rw [hw]
  clear hw
  obtain ⟨b14, hb⟩ : ∃ g, wz.heap.size = g := ⟨_, rfl⟩
  rw [hb] at CZ
  try rw [hb]
  clear hb
  replace hT := hT.keep bN
  replace ha := ha.keep bN
  replace hb := hb.keep bN
  replace hc := hc.keep bN
  replace hx := hx.keep bN
  replace hy := hy.keep bN
  replace hz := hz.keep bN
  replace CV := CV.keep bN
  replace v0 := CV.at_ (j := 0) rfl
  replace v1 := CV.at_ (j := 1) rfl
  replace v2 := CV.at_ (j := 2) rfl
  replace CX := CX.keep bN
  replace cx0 := CX.at_ (j := 0) rfl
  replace cx1 := CX.at_ (j := 1) rfl
  replace cx2 := CX.at_ (j := 2) rfl
  replace CY := CY.keep bN
  replace cy0 := CY.at_ (j := 0) rfl
  replace cy1 := CY.at_ (j := 1) rfl
  replace cy2 := CY.at_ (j := 2) rfl
  replace B1 := below_trans B1 bN
  clear bN
  have cz0 := CZ.at_ (j := 0) rfl
  have cz1 := CZ.at_ (j := 1) rfl
  have cz2 := CZ.at_ (j := 2) rfl
  obtain ⟨hix, hlx, -, -⟩ := built_facts HBx.out HX.out
  have HIx := Lib.hid hix
  have HLx := Lib.hid hlx
  clear hix hlx
  obtain ⟨hiy, hly, -, -⟩ := built_facts HBy.out HY.out
  have HIy := Lib.hid hiy
  have HLy := Lib.hid hly
  clear hiy hly
  obtain ⟨hiz, hlz, -, -⟩ := built_facts HBz.out HZ.out
  have HIz := Lib.hid hiz
  have HLz := Lib.hid hlz
  clear hiz hlz
  have bX := below_new wb14 (.cells #[x.vv, x.kv, x.wv, y.vv, y.kv, y.wv, z.vv, z.kv, z.wv] 64)
  have hL : IsTries (wb14.alloc (.cells #[x.vv, x.kv, x.wv, y.vv, y.kv, y.wv, z.vv, z.kv, z.wv] 64)) (.slice (some ⟨wb14.heap.size, 0, none⟩) 3 3) [x, y, z] := isTries_lit (l := [x, y, z]) (by simp) (by
    intro t ht
    simp only [List.mem_cons, List.not_mem_nil, or_false] at ht
    rcases ht with rfl | rfl | rfl
    · exact hx
    · exact hy
    · exact hz)
  have hLl : ∀ t ∈ ([x, y, z] : List TR), t.vs.length ≤ 100000 := by
    intro t ht
    simp only [List.mem_cons, List.not_mem_nil, or_false] at ht
    rcases ht with rfl | rfl | rfl
    · exact HLx.out
    · exact HLy.out
    · exact HLz.out
  have hLi : ∀ t ∈ ([x, y, z] : List TR), IncV t.vs := by
    intro t ht
    simp only [List.mem_cons, List.not_mem_nil, or_false] at ht
    rcases ht with rfl | rfl | rfl
    · exact HIx.out
    · exact HIy.out
    · exact HIz.out
  go_wp2_with fail
  refine (Common_any _ [x, y, z] _ hL hLl hLi (by simp)).mono ?_
  rintro e wl ⟨u, L, rfl, hU, HL, bY⟩
  have bN := bX.trans (bY.mono bX.size)
  clear bX bY hL hLl hLi
  replace hT := hT.keep bN
  replace ha := ha.keep bN
  replace hb := hb.keep bN
  replace hc := hc.keep bN
  replace hx := hx.keep bN
  replace hy := hy.keep bN
  replace hz := hz.keep bN
  replace CV := CV.keep bN
  replace v0 := CV.at_ (j := 0) rfl
  replace v1 := CV.at_ (j := 1) rfl
  replace v2 := CV.at_ (j := 2) rfl
  replace CX := CX.keep bN
  replace cx0 := CX.at_ (j := 0) rfl
  replace cx1 := CX.at_ (j := 1) rfl
  replace cx2 := CX.at_ (j := 2) rfl
  replace CY := CY.keep bN
  replace cy0 := CY.at_ (j := 0) rfl
  replace cy1 := CY.at_ (j := 1) rfl
  replace cy2 := CY.at_ (j := 2) rfl
  replace CZ := CZ.keep bN
  replace cz0 := CZ.at_ (j := 0) rfl
  replace cz1 := CZ.at_ (j := 1) rfl
  replace cz2 := CZ.at_ (j := 2) rfl
  replace B1 := below_trans B1 bN
  clear bN
  obtain ⟨pu, cu, rfl, -, hLm, -⟩ := id hU
  obtain ⟨nl, hnl⟩ : ∃ n, L.length = n := ⟨_, rfl⟩
  rw [hnl] at hU hLm
  rw [hnl]
  have HNL := Lib.hid hnl
  clear hnl
  have HML := Lib.hid (show ∀ c, c ∈ L ↔ c ∈ x.vs ∧ c ∈ y.vs ∧ c ∈ z.vs from fun c => by
    rw [HL.out, mem_common (by simp)]
    simp [TR.tr_vs])
  have HRI := Lib.hid (show IncV L from by
    rw [HL.out]
    refine incV_of (common_rising fun t ht => ?_)
    simp only [List.map_cons, List.map_nil, List.mem_cons, List.not_mem_nil, or_false] at ht
    rcases ht with rfl | rfl | rfl
    · rw [TR.tr_vs]; exact HIx.out
    · rw [TR.tr_vs]; exact HIy.out
    · rw [TR.tr_vs]; exact HIz.out)
  go_wp2
  go_loopg [16, 17] nl (fun g vq vi wr => ∃ i : Nat, vi = .int .i64 i ∧ vq = .bool (decide (v ∈ L.take i)) ∧ i ≤ nl ∧ nl - i ≤ g ∧ Below wl.heap.size wl wr)
  case atStart => exact ⟨0, rfl, by simp, Nat.zero_le _, Nat.le_refl _, Below.refl _ _⟩
  case round =>
    obtain ⟨i, rfl, rfl, hi, hg, B⟩ := hrel
    by_cases hlt : i < nl
    · have hltz : (i : Int) < (nl : Int) := by omega
      obtain ⟨c, hc'⟩ := getV (l := L) (i := i) (by have := HNL.out; omega)
      obtain ⟨b1, o1, e, c0, c1, c2⟩ := vals_at' (hU.keep B) hc'
      cases e
      unfold strV at c2
      have VQ := Lib.hid (show decide (v ∈ L.take (i + 1)) = (decide (v ∈ L.take i) || decide (c = v)) by
        rw [take_succ' hc', ← Bool.decide_or, decide_eq_decide, List.mem_append, List.mem_singleton]
        exact or_congr Iff.rfl eq_comm)
      have HC := Lib.hid hc'
      have HCM := Lib.hid ((HML.out c).1 (List.mem_of_getElem? hc'))
      clear hc'
      obtain ⟨q, hq⟩ : ∃ q, decide (v ∈ L.take i) = q := ⟨_, rfl⟩
      obtain ⟨q2, hq2⟩ : ∃ q, decide (c = v) = q := ⟨_, rfl⟩
      rw [hq, hq2] at VQ
      rw [hq]
      have hqr : ∀ w, (binOp .eql 58 (.agg #[.int .i64 c.t, .int .i64 c.n, strV c.s]) (.agg #[.int .i64 v.t, .int .i64 v.n, strV v.s])).run Tryd.prog w = .ok (.bool q2) w := fun w => by rw [← hq2]; exact run_eq_vl c v w
      have hgd := run_guard_vl .eql
      unfold strV at hqr
      clear hq hq2
      go_upto_region 12 with fail
      go_cut [16] from 61 to 114 (fun v16 wx => v16 = .bool (q || q2) ∧ Below wr.heap.size wr wx)
      case first =>
        have a_v0 := AftB.cell (cell_keep B v0)
        have a_v1 := AftB.cell (cell_keep B v1)
        have a_v2 := AftB.cell (cell_keep B v2)
        have a_c0 := AftB.cell c0
        have a_c1 := AftB.cell c1
        have a_c2 := AftB.cell c2
        cases q with
        | true =>
          refine wp_region_aftB (by kernel_rfl) (by kernel_rfl) ?_
          repeat (go_big_quiet_step (fail))
          refine wpQuiet_nil ?_
          intro w7 B7
          clear a_v0 a_v1 a_v2 a_c0 a_c1 a_c2 hqr hgd
          go_wp2_with fail
          go_meet
          case rel => exact ⟨rfl, B7⟩
        | false =>
          refine wp_region_aftB (by kernel_rfl) (by kernel_rfl) ?_
          repeat (go_big_quiet_step (fail))
          refine wpQuiet_nil ?_
          intro w7 B7
          clear a_v0 a_v1 a_v2 a_c0 a_c1 a_c2 hqr hgd
          go_wp2_with fail
          go_meet
          case rel => exact ⟨by cases q2 <;> rfl, B7⟩
      case rest =>
        obtain ⟨rfl, B7⟩ := hcut
        obtain ⟨wg, hwg⟩ : ∃ zz, zz = wc := ⟨_, rfl⟩
        rw [← hwg] at B7
        rw [← hwg]
        clear hwg hqr hgd
        rw [← VQ.out]
        have BG := B.trans (B7.mono B.size)
        have hTg := hT.keep BG
        have hag := ha.keep BG
        have hbg := hb.keep BG
        have hcg := hc.keep BG
        have a_c0 := AftB.cell (cell_keep B7 c0)
        have a_c1 := AftB.cell (cell_keep B7 c1)
        have a_c2 := AftB.cell (cell_keep B7 c2)
        have hs1 := decide_eq_true HCM.out.1
        have hs2 := decide_eq_true HCM.out.2.1
        have hs3 := decide_eq_true HCM.out.2.2
        have HS1 := Lib.hid hs1
        have HS2 := Lib.hid hs2
        have HS3 := Lib.hid hs3
        clear hs1 hs2 hs3
        by_cases hi0 : i = 0
        · subst hi0
          simp only [Nat.zero_mul, Nat.add_zero] at a_c0 a_c1 a_c2
          go_upto_region 13 with fail
          refine wp_region_aftB (by kernel_rfl) (by kernel_rfl) ?_
          repeat (go_big_quiet_step ((first | with_reducible exact starts_aftB hc0 hc4 HBx.out HX.out hTg hag HS1.out _ | with_reducible exact starts_aftB hc0 hc4 HBy.out HY.out hTg hbg HS2.out _ | with_reducible exact starts_aftB hc0 hc4 HBz.out HZ.out hTg hcg HS3.out _)))
          refine wpQuiet_nil ?_
          intro w8 B8
          have BB := BG.trans (B8.mono BG.size)
          clear a_c0 a_c1 a_c2
          go_wp2
          go_roundg (nl - (0 + 1))
          case measure => omega
          case rel => exact ⟨0 + 1, by go_num, rfl, hlt, Nat.le_refl _, BB⟩
        · have hip : (0 : Int) < (i : Int) := by omega
          have hip' : 0 < i := by omega
          obtain ⟨i', hi'⟩ : ∃ i', i = i' + 1 := ⟨i - 1, by omega⟩
          have hi1 : (i : Int) - 1 = (i' : Int) := by omega
          have hi2 : (i' : Int) < (nl : Int) := by omega
          have hwi : IntKind.i64.wrap (i' : Int) = (i' : Int) := by rw [IntKind.wrap_i64]; omega
          obtain ⟨d, hd⟩ := getV (l := L) (i := i') (by have := HNL.out; omega)
          obtain ⟨_, _, ee, d0, d1, d2⟩ := vals_at' (hU.keep BG) hd
          cases ee
          unfold strV at d2
          have hr0 := HRI.out i' i d c hd HC.out (by omega)
          obtain ⟨r, hr⟩ : ∃ r, cmpV d c = r := ⟨_, rfl⟩
          rw [hr] at hr0
          have hr1 : ¬ 0 ≤ r := by omega
          have HR := Lib.hid hr
          have a_d0 := AftB.cell d0
          have a_d1 := AftB.cell d1
          have a_d2 := AftB.cell d2
          clear hr hd d0 d1 d2 hi'
          go_upto_region 13 with fail
          refine wp_region_aftB (by kernel_rfl) (by kernel_rfl) ?_
          repeat (go_big_quiet_step ((first | with_reducible exact compare_aftB HR.out _ | with_reducible exact starts_aftB hc0 hc4 HBx.out HX.out hTg hag HS1.out _ | with_reducible exact starts_aftB hc0 hc4 HBy.out HY.out hTg hbg HS2.out _ | with_reducible exact starts_aftB hc0 hc4 HBz.out HZ.out hTg hcg HS3.out _)))
          refine wpQuiet_nil ?_
          intro w8 B8
          have BB := BG.trans (B8.mono BG.size)
          clear a_c0 a_c1 a_c2 a_d0 a_d1 a_d2
          go_wp2
          go_roundg (nl - (i + 1))
          case measure => omega
          case rel => exact ⟨i + 1, by go_num, rfl, hlt, Nat.le_refl _, BB⟩
    · have hltz : ¬ (i : Int) < (nl : Int) := by omega
      rw [List.take_of_length_le (by rw [HNL.out]; omega)]
      replace hT := hT.keep B
      replace ha := ha.keep B
      replace hb := hb.keep B
      replace hc := hc.keep B
      replace hx := hx.keep B
      replace hy := hy.keep B
      replace hz := hz.keep B
      replace hU := hU.keep B
      replace CV := CV.keep B
      replace v0 := CV.at_ (j := 0) rfl
      replace v1 := CV.at_ (j := 1) rfl
      replace v2 := CV.at_ (j := 2) rfl
      replace CX := CX.keep B
      replace cx0 := CX.at_ (j := 0) rfl
      replace cx1 := CX.at_ (j := 1) rfl
      replace cx2 := CX.at_ (j := 2) rfl
      replace CY := CY.keep B
      replace cy0 := CY.at_ (j := 0) rfl
      replace cy1 := CY.at_ (j := 1) rfl
      replace cy2 := CY.at_ (j := 2) rfl
      replace CZ := CZ.keep B
      replace cz0 := CZ.at_ (j := 0) rfl
      replace cz1 := CZ.at_ (j := 1) rfl
      replace cz2 := CZ.at_ (j := 2) rfl
      replace B1 := below_trans B1 B
      clear B
      obtain ⟨sa, hsa⟩ : ∃ q, decide (v ∈ x.vs) = q := ⟨_, rfl⟩
      obtain ⟨sb, hsb⟩ : ∃ q, decide (v ∈ y.vs) = q := ⟨_, rfl⟩
      obtain ⟨sc, hsc⟩ : ∃ q, decide (v ∈ z.vs) = q := ⟨_, rfl⟩
      have hin : decide (v ∈ L) = (sa && sb && sc) := by rw [← hsa, ← hsb, ← hsc, ← Bool.decide_and, ← Bool.decide_and, decide_eq_decide, HML.out v, and_assoc]
      rw [hin]
      have hSa := fun W h1 h2 => starts_mem (va := .slice pa xs.length ca) hc0 hc4 HBx.out HX.out v W h1 h2
      have hSb := fun W h1 h2 => starts_mem (va := .slice pb ys.length cb) hc0 hc4 HBy.out HY.out v W h1 h2
      have hSc := fun W h1 h2 => starts_mem (va := .slice pc zs.length cc) hc0 hc4 HBz.out HZ.out v W h1 h2
      rw [hsa] at hSa
      rw [hsb] at hSb
      rw [hsc] at hSc
      unfold valV strV at hSa hSb hSc
      clear hsa hsb hsc hin
      have hqq : (sc == sc) = true := by cases sc <;> rfl
      have HPM := Lib.hid (show decide (L = commonL ([z, x, y].map TR.tr)) = true from decide_eq_true (by
        rw [HL.out]
        exact common_perm (by rw [TR.tr_vs]; exact HIx.out) (by rw [TR.tr_vs]; exact HIy.out) (by rw [TR.tr_vs]; exact HIz.out)))
      have HON := Lib.hid (show commonL ([x].map TR.tr) = x.vs by rw [show [x].map TR.tr = [x.tr] from rfl, common_one, TR.tr_vs])
      have HALL : ∀ W, Below wr.heap.size wr W → (fun w' => w'.cell? ⟨b9, 0, none⟩ = some (.int .i64 v.t) ∧ w'.cell? ⟨b9, 1, none⟩ = some (.int .i64 v.n) ∧ w'.cell? ⟨b9, 2, none⟩ = some (.string ⟨v.s.toArray⟩) ∧ w'.cell? ⟨b12, 0, none⟩ = some x.vv ∧ w'.cell? ⟨b12, 1, none⟩ = some x.kv ∧ w'.cell? ⟨b12, 2, none⟩ = some x.wv ∧ w'.cell? ⟨b13, 0, none⟩ = some y.vv ∧ w'.cell? ⟨b13, 1, none⟩ = some y.kv ∧ w'.cell? ⟨b13, 2, none⟩ = some y.wv ∧ w'.cell? ⟨b14, 0, none⟩ = some z.vv ∧ w'.cell? ⟨b14, 1, none⟩ = some z.kv ∧ w'.cell? ⟨b14, 2, none⟩ = some z.wv) W := fun W hW => ⟨cell_keep hW v0, cell_keep hW v1, cell_keep hW v2, cell_keep hW cx0, cell_keep hW cx1, cell_keep hW cx2, cell_keep hW cy0, cell_keep hW cy1, cell_keep hW cy2, cell_keep hW cz0, cell_keep hW cz1, cell_keep hW cz2⟩
      clear v0 v1 v2 cx0 cx1 cx2 cy0 cy1 cy2 cz0 cz1 cz2
      go_upto_region 15 with fail
      try simp only [List.append_eq, List.cons_append, List.nil_append]
      cases sa with
      | false =>
        refine wp_region_noPanic ?_
        refine wp_region_late (fun w' => w'.cell? ⟨b9, 0, none⟩ = some (.int .i64 v.t) ∧ w'.cell? ⟨b9, 1, none⟩ = some (.int .i64 v.n) ∧ w'.cell? ⟨b9, 2, none⟩ = some (.string ⟨v.s.toArray⟩) ∧ w'.cell? ⟨b12, 0, none⟩ = some x.vv ∧ w'.cell? ⟨b12, 1, none⟩ = some x.kv ∧ w'.cell? ⟨b12, 2, none⟩ = some x.wv ∧ w'.cell? ⟨b13, 0, none⟩ = some y.vv ∧ w'.cell? ⟨b13, 1, none⟩ = some y.kv ∧ w'.cell? ⟨b13, 2, none⟩ = some y.wv ∧ w'.cell? ⟨b14, 0, none⟩ = some z.vv ∧ w'.cell? ⟨b14, 1, none⟩ = some z.kv ∧ w'.cell? ⟨b14, 2, none⟩ = some z.wv) 39 (by kernel_rfl) (HALL _ (Below.refl _ _).drew) (fun _ => ?_)
        obtain ⟨wd, hwd⟩ : ∃ x : World, wr.drew = x := ⟨_, rfl⟩
        have bD : Below wr.heap.size wr wd := by rw [← hwd]; exact (Below.refl _ _).drew
        rw [hwd]
        clear hwd
        have hHeld := HALL _ bD
        refine any_take (by kernel_rfl) (i := 0) (oi := _) (v := ?_) rfl rfl (by kernel_rfl) (by kernel_rfl) (by kernel_rfl) (fun _ _ _ h => h) (Or.inl ⟨by rfl, ?_⟩) hHeld ?_
        rotate_left
        · intro w' hSw; try dsimp only at hSw
          go_simp
          try with_reducible rfl
        try simp only [puts, gets]
        refine any_take (by kernel_rfl) (i := 1) (oi := _) (v := ?_) rfl rfl (by kernel_rfl) (by kernel_rfl) (by kernel_rfl) (fun _ _ _ h => h) (Or.inl ⟨by rfl, ?_⟩) hHeld ?_
        rotate_left
        · intro w' hSw; try dsimp only at hSw
          go_simp
          try with_reducible rfl
        try simp only [puts, gets]
        refine any_take (by kernel_rfl) (i := 2) (oi := _) (v := ?_) rfl rfl (by kernel_rfl) (by kernel_rfl) (by kernel_rfl) (fun _ _ _ h => h) (Or.inl ⟨by rfl, ?_⟩) hHeld ?_
        rotate_left
        · intro w' hSw; try dsimp only at hSw
          go_simp
          try with_reducible rfl
        try simp only [puts, gets]
        refine any_take (by kernel_rfl) (i := 3) (oi := _) (v := ?_) rfl rfl (by kernel_rfl) (by kernel_rfl) (by kernel_rfl) (fun _ _ _ h => h) (Or.inl ⟨by rfl, ?_⟩) hHeld ?_
        rotate_left
        · intro w' hSw; try dsimp only at hSw
          go_simp
          try with_reducible rfl
        try simp only [puts, gets]
        refine any_take (by kernel_rfl) (i := 4) (oi := _) (v := ?_) rfl rfl (by kernel_rfl) (by kernel_rfl) (by kernel_rfl) (fun _ _ _ h => h) (Or.inl ⟨by rfl, ?_⟩) hHeld ?_
        rotate_left
        · intro w' hSw; try dsimp only at hSw
          go_simp
          try with_reducible rfl
        try simp only [puts, gets]
        refine any_take (by kernel_rfl) (i := 5) (oi := _) (v := ?_) rfl rfl (by kernel_rfl) (by kernel_rfl) (by kernel_rfl) (fun _ _ _ h => h) (Or.inl ⟨by rfl, ?_⟩) hHeld ?_
        rotate_left
        · intro w' hSw; try dsimp only at hSw
          go_simp
          try with_reducible rfl
        try simp only [puts, gets]
        refine any_next (i := 6) (by kernel_rfl) rfl rfl (fun K hK => ?_)
        go_simp
        go_at_call 68
        refine (hSa _ (hT.keep bD) (ha.keep bD)).mono ?_
        rintro e wq ⟨rfl, bC⟩
        replace bD := below_trans bD bC
        clear bC
        refine hK.out _ _ ?_ (fun hHeld => ?_)
        · exact HALL _ bD
        clear hK K
        try simp only [puts, gets]
        refine any_take (by kernel_rfl) (i := 7) (oi := _) (v := ?_) rfl rfl (by kernel_rfl) (by kernel_rfl) (by kernel_rfl) (fun _ _ _ h => h) (Or.inl ⟨by rfl, ?_⟩) hHeld ?_
        rotate_left
        · intro w' hSw; try dsimp only at hSw
          go_simp
          try with_reducible rfl
        try simp only [puts, gets]
        refine any_take (by kernel_rfl) (i := 8) (oi := _) (v := undef) rfl rfl (by kernel_rfl) (by kernel_rfl) (by kernel_rfl) (fun _ _ _ h => h) (Or.inr ⟨by rfl, rfl⟩) hHeld ?_
        try simp only [puts, gets]
        refine any_take (by kernel_rfl) (i := 9) (oi := _) (v := undef) rfl rfl (by kernel_rfl) (by kernel_rfl) (by kernel_rfl) (fun _ _ _ h => h) (Or.inr ⟨by rfl, rfl⟩) hHeld ?_
        try simp only [puts, gets]
        refine any_take (by kernel_rfl) (i := 10) (oi := _) (v := undef) rfl rfl (by kernel_rfl) (by kernel_rfl) (by kernel_rfl) (fun _ _ _ h => h) (Or.inr ⟨by rfl, rfl⟩) hHeld ?_
        try simp only [puts, gets]
        refine any_take (by kernel_rfl) (i := 11) (oi := _) (v := undef) rfl rfl (by kernel_rfl) (by kernel_rfl) (by kernel_rfl) (fun _ _ _ h => h) (Or.inr ⟨by rfl, rfl⟩) hHeld ?_
        try simp only [puts, gets]
        refine any_take (by kernel_rfl) (i := 12) (oi := _) (v := ?_) rfl rfl (by kernel_rfl) (by kernel_rfl) (by kernel_rfl) (fun _ _ _ h => h) (Or.inl ⟨by rfl, ?_⟩) hHeld ?_
        rotate_left
        · intro w' hSw; try dsimp only at hSw
          go_simp
          try with_reducible rfl
        try simp only [puts, gets]
        refine any_take (by kernel_rfl) (i := 13) (oi := _) (v := ?_) rfl rfl (by kernel_rfl) (by kernel_rfl) (by kernel_rfl) (fun _ _ _ h => h) (Or.inl ⟨by rfl, ?_⟩) hHeld ?_
        rotate_left
        · intro w' hSw; try dsimp only at hSw
          go_simp
          try with_reducible rfl
        try simp only [puts, gets]
        refine any_take (by kernel_rfl) (i := 14) (oi := _) (v := undef) rfl rfl (by kernel_rfl) (by kernel_rfl) (by kernel_rfl) (fun _ _ _ h => h) (Or.inr ⟨by rfl, rfl⟩) hHeld ?_
        try simp only [puts, gets]
        refine any_take (by kernel_rfl) (i := 15) (oi := _) (v := undef) rfl rfl (by kernel_rfl) (by kernel_rfl) (by kernel_rfl) (fun _ _ _ h => h) (Or.inr ⟨by rfl, rfl⟩) hHeld ?_
        try simp only [puts, gets]
        refine any_take (by kernel_rfl) (i := 16) (oi := _) (v := undef) rfl rfl (by kernel_rfl) (by kernel_rfl) (by kernel_rfl) (fun _ _ _ h => h) (Or.inr ⟨by rfl, rfl⟩) hHeld ?_
        try simp only [puts, gets]
        refine any_take (by kernel_rfl) (i := 17) (oi := _) (v := undef) rfl rfl (by kernel_rfl) (by kernel_rfl) (by kernel_rfl) (fun _ _ _ h => h) (Or.inr ⟨by rfl, rfl⟩) hHeld ?_
        try simp only [puts, gets]
        refine any_take (by kernel_rfl) (i := 18) (oi := _) (v := ?_) rfl rfl (by kernel_rfl) (by kernel_rfl) (by kernel_rfl) (fun _ _ _ h => h) (Or.inl ⟨by rfl, ?_⟩) hHeld ?_
        rotate_left
        · intro w' hSw; try dsimp only at hSw
          go_simp
          try with_reducible rfl
        try simp only [puts, gets]
        refine any_take (by kernel_rfl) (i := 19) (oi := _) (v := ?_) rfl rfl (by kernel_rfl) (by kernel_rfl) (by kernel_rfl) (fun _ _ _ h => h) (Or.inl ⟨by rfl, ?_⟩) hHeld ?_
        rotate_left
        · intro w' hSw; try dsimp only at hSw
          go_simp
          try with_reducible rfl
        try simp only [puts, gets]
        refine any_take (by kernel_rfl) (i := 20) (oi := _) (v := ?_) rfl rfl (by kernel_rfl) (by kernel_rfl) (by kernel_rfl) (fun _ _ _ h => h) (Or.inl ⟨by rfl, ?_⟩) hHeld ?_
        rotate_left
        · intro w' hSw; try dsimp only at hSw
          go_simp
          try with_reducible rfl
        try simp only [puts, gets]
        refine any_take (by kernel_rfl) (i := 21) (oi := _) (v := ?_) rfl rfl (by kernel_rfl) (by kernel_rfl) (by kernel_rfl) (fun _ _ _ h => h) (Or.inl ⟨by rfl, ?_⟩) hHeld ?_
        rotate_left
        · intro w' hSw; try dsimp only at hSw
          go_simp
          try with_reducible rfl
        try simp only [puts, gets]
        refine any_take (by kernel_rfl) (i := 22) (oi := _) (v := ?_) rfl rfl (by kernel_rfl) (by kernel_rfl) (by kernel_rfl) (fun _ _ _ h => h) (Or.inl ⟨by rfl, ?_⟩) hHeld ?_
        rotate_left
        · intro w' hSw; try dsimp only at hSw
          go_simp
          try with_reducible rfl
        try simp only [puts, gets]
        refine any_take (by kernel_rfl) (i := 23) (oi := _) (v := ?_) rfl rfl (by kernel_rfl) (by kernel_rfl) (by kernel_rfl) (fun _ _ _ h => h) (Or.inl ⟨by rfl, ?_⟩) hHeld ?_
        rotate_left
        · intro w' hSw; try dsimp only at hSw
          go_simp
          try with_reducible rfl
        try simp only [puts, gets]
        refine any_take (by kernel_rfl) (i := 24) (oi := _) (v := ?_) rfl rfl (by kernel_rfl) (by kernel_rfl) (by kernel_rfl) (fun _ _ _ h => h) (Or.inl ⟨by rfl, ?_⟩) hHeld ?_
        rotate_left
        · intro w' hSw; try dsimp only at hSw
          go_simp
          try with_reducible rfl
        try simp only [puts, gets]
        refine any_take (by kernel_rfl) (i := 25) (oi := _) (v := ?_) rfl rfl (by kernel_rfl) (by kernel_rfl) (by kernel_rfl) (fun _ _ _ h => h) (Or.inl ⟨by rfl, ?_⟩) hHeld ?_
        rotate_left
        · intro w' hSw; try dsimp only at hSw
          go_simp
          try with_reducible rfl
        try simp only [puts, gets]
        have bX := below_new wq (.cells #[z.vv, z.kv, z.wv, x.vv, x.kv, x.wv, y.vv, y.kv, y.wv] 64)
        have hL : IsTries (wq.alloc (.cells #[z.vv, z.kv, z.wv, x.vv, x.kv, x.wv, y.vv, y.kv, y.wv] 64)) (.slice (some ⟨wq.heap.size, 0, none⟩) 3 3) [z, x, y] := isTries_lit (l := [z, x, y]) (by simp) (by
          intro t ht
          simp only [List.mem_cons, List.not_mem_nil, or_false] at ht
          rcases ht with rfl | rfl | rfl
          · exact hz.keep bD
          · exact hx.keep bD
          · exact hy.keep bD)
        have hLl : ∀ t ∈ ([z, x, y] : List TR), t.vs.length ≤ 100000 := by
          intro t ht
          simp only [List.mem_cons, List.not_mem_nil, or_false] at ht
          rcases ht with rfl | rfl | rfl
          · exact HLz.out
          · exact HLx.out
          · exact HLy.out
        have hLi : ∀ t ∈ ([z, x, y] : List TR), IncV t.vs := by
          intro t ht
          simp only [List.mem_cons, List.not_mem_nil, or_false] at ht
          rcases ht with rfl | rfl | rfl
          · exact HIz.out
          · exact HIx.out
          · exact HIy.out
        refine any_next (i := 26) (by kernel_rfl) rfl rfl (fun K hK => ?_)
        go_simp
        refine hK.out _ _ ?_ (fun hHeld => ?_)
        · exact HALL _ (bD.trans (bX.mono bD.size))
        clear hK K
        try simp only [puts, gets]
        refine any_next (i := 27) (by kernel_rfl) rfl rfl (fun K hK => ?_)
        go_simp
        go_at_call 65
        refine (Common_any _ [z, x, y] _ hL hLl hLi (by simp)).mono ?_
        rintro e wm ⟨u2, L2, rfl, hU2, HL2, bC⟩
        replace bD := below_trans (bD.trans (bX.mono bD.size)) bC
        clear bC bX hL hLl hLi
        refine hK.out _ _ ?_ (fun hHeld => ?_)
        · exact HALL _ bD
        clear hK K
        try simp only [puts, gets]
        refine any_next (i := 28) (by kernel_rfl) rfl rfl (fun K hK => ?_)
        go_simp
        go_at_call 64
        refine (SameValues_any _ _ L L2 _ (hU.keep bD) hU2).mono ?_
        rintro e wq ⟨rfl, bC⟩
        rw [HL2.out, HPM.out]
        replace bD := below_trans bD bC
        clear bC
        refine hK.out _ _ ?_ (fun hHeld => ?_)
        · exact HALL _ bD
        clear hK K
        try simp only [puts, gets]
        refine any_take (by kernel_rfl) (i := 29) (oi := _) (v := ?_) rfl rfl (by kernel_rfl) (by kernel_rfl) (by kernel_rfl) (fun _ _ _ h => h) (Or.inl ⟨by rfl, ?_⟩) hHeld ?_
        rotate_left
        · intro w' hSw; try dsimp only at hSw
          go_simp
          try with_reducible rfl
        try simp only [puts, gets]
        refine any_take (by kernel_rfl) (i := 30) (oi := _) (v := ?_) rfl rfl (by kernel_rfl) (by kernel_rfl) (by kernel_rfl) (fun _ _ _ h => h) (Or.inl ⟨by rfl, ?_⟩) hHeld ?_
        rotate_left
        · intro w' hSw; try dsimp only at hSw
          go_simp
          try with_reducible rfl
        try simp only [puts, gets]
        refine any_take (by kernel_rfl) (i := 31) (oi := _) (v := ?_) rfl rfl (by kernel_rfl) (by kernel_rfl) (by kernel_rfl) (fun _ _ _ h => h) (Or.inl ⟨by rfl, ?_⟩) hHeld ?_
        rotate_left
        · intro w' hSw; try dsimp only at hSw
          go_simp
          try with_reducible rfl
        try simp only [puts, gets]
        refine any_take (by kernel_rfl) (i := 34) (oi := _) (v := ?_) rfl rfl (by kernel_rfl) (by kernel_rfl) (by kernel_rfl) (fun _ _ _ h => h) (Or.inl ⟨by rfl, ?_⟩) hHeld ?_
        rotate_left
        · intro w' hSw; try dsimp only at hSw
          go_simp
          try with_reducible rfl
        try simp only [puts, gets]
        refine any_take (by kernel_rfl) (i := 35) (oi := _) (v := ?_) rfl rfl (by kernel_rfl) (by kernel_rfl) (by kernel_rfl) (fun _ _ _ h => h) (Or.inl ⟨by rfl, ?_⟩) hHeld ?_
        rotate_left
        · intro w' hSw; try dsimp only at hSw
          go_simp
          try with_reducible rfl
        try simp only [puts, gets]
        have bX := below_new wq (.cells #[x.vv, x.kv, x.wv] 64)
        have hL : IsTries (wq.alloc (.cells #[x.vv, x.kv, x.wv] 64)) (.slice (some ⟨wq.heap.size, 0, none⟩) 1 1) [x] := isTries_lit (l := [x]) (by simp) (by
          intro t ht
          simp only [List.mem_cons, List.not_mem_nil, or_false] at ht
          rcases ht with rfl
          · exact hx.keep bD)
        have hLl : ∀ t ∈ ([x] : List TR), t.vs.length ≤ 100000 := by
          intro t ht
          simp only [List.mem_cons, List.not_mem_nil, or_false] at ht
          rcases ht with rfl
          · exact HLx.out
        have hLi : ∀ t ∈ ([x] : List TR), IncV t.vs := by
          intro t ht
          simp only [List.mem_cons, List.not_mem_nil, or_false] at ht
          rcases ht with rfl
          · exact HIx.out
        refine any_next (i := 32) (by kernel_rfl) rfl rfl (fun K hK => ?_)
        go_simp
        refine hK.out _ _ ?_ (fun hHeld => ?_)
        · exact HALL _ (bD.trans (bX.mono bD.size))
        clear hK K
        try simp only [puts, gets]
        refine any_next (i := 33) (by kernel_rfl) rfl rfl (fun K hK => ?_)
        go_simp
        go_at_call 65
        refine (Common_any _ [x] _ hL hLl hLi (by simp)).mono ?_
        rintro e wm ⟨u3, L3, rfl, hU3, HL3, bC⟩
        replace bD := below_trans (bD.trans (bX.mono bD.size)) bC
        clear bC bX hL hLl hLi
        refine hK.out _ _ ?_ (fun hHeld => ?_)
        · exact HALL _ bD
        clear hK K
        try simp only [puts, gets]
        refine any_next (i := 36) (by kernel_rfl) rfl rfl (fun K hK => ?_)
        go_simp
        go_at_call 64
        refine (SameValues_any _ _ L3 x.vs _ hU3 (hx.keep bD).vals).mono ?_
        rintro e wq ⟨rfl, bC⟩
        rw [decide_eq_true (HL3.out.trans HON.out)]
        replace bD := below_trans bD bC
        clear bC
        refine hK.out _ _ ?_ (fun hHeld => ?_)
        · exact HALL _ bD
        clear hK K
        try simp only [puts, gets]
        refine any_take (by kernel_rfl) (i := 37) (oi := _) (v := ?_) rfl rfl (by kernel_rfl) (by kernel_rfl) (by kernel_rfl) (fun _ _ _ h => h) (Or.inl ⟨by rfl, ?_⟩) hHeld ?_
        rotate_left
        · intro w' hSw; try dsimp only at hSw
          go_simp
          try with_reducible rfl
        try simp only [puts, gets]
        refine any_take (by kernel_rfl) (i := 38) (oi := _) (v := ?_) rfl rfl (by kernel_rfl) (by kernel_rfl) (by kernel_rfl) (fun _ _ _ h => h) (Or.inl ⟨by rfl, ?_⟩) hHeld ?_
        rotate_left
        · intro w' hSw; try dsimp only at hSw
          go_simp
          try with_reducible rfl
        try simp only [puts, gets]
        refine any_done (by kernel_rfl) ?_ _
        refine NoPanic.normal ?_
        go_wp2
        go_ret
        exact ⟨rfl, below_trans B1 bD⟩
      | true =>
        cases sb with
        | false =>
          refine wp_region_noPanic ?_
          refine wp_region_late (fun w' => w'.cell? ⟨b9, 0, none⟩ = some (.int .i64 v.t) ∧ w'.cell? ⟨b9, 1, none⟩ = some (.int .i64 v.n) ∧ w'.cell? ⟨b9, 2, none⟩ = some (.string ⟨v.s.toArray⟩) ∧ w'.cell? ⟨b12, 0, none⟩ = some x.vv ∧ w'.cell? ⟨b12, 1, none⟩ = some x.kv ∧ w'.cell? ⟨b12, 2, none⟩ = some x.wv ∧ w'.cell? ⟨b13, 0, none⟩ = some y.vv ∧ w'.cell? ⟨b13, 1, none⟩ = some y.kv ∧ w'.cell? ⟨b13, 2, none⟩ = some y.wv ∧ w'.cell? ⟨b14, 0, none⟩ = some z.vv ∧ w'.cell? ⟨b14, 1, none⟩ = some z.kv ∧ w'.cell? ⟨b14, 2, none⟩ = some z.wv) 39 (by kernel_rfl) (HALL _ (Below.refl _ _).drew) (fun _ => ?_)
          obtain ⟨wd, hwd⟩ : ∃ x : World, wr.drew = x := ⟨_, rfl⟩
          have bD : Below wr.heap.size wr wd := by rw [← hwd]; exact (Below.refl _ _).drew
          rw [hwd]
          clear hwd
          have hHeld := HALL _ bD
          refine any_take (by kernel_rfl) (i := 0) (oi := _) (v := ?_) rfl rfl (by kernel_rfl) (by kernel_rfl) (by kernel_rfl) (fun _ _ _ h => h) (Or.inl ⟨by rfl, ?_⟩) hHeld ?_
          rotate_left
          · intro w' hSw; try dsimp only at hSw
            go_simp
            try with_reducible rfl
          try simp only [puts, gets]
          refine any_take (by kernel_rfl) (i := 1) (oi := _) (v := ?_) rfl rfl (by kernel_rfl) (by kernel_rfl) (by kernel_rfl) (fun _ _ _ h => h) (Or.inl ⟨by rfl, ?_⟩) hHeld ?_
          rotate_left
          · intro w' hSw; try dsimp only at hSw
            go_simp
            try with_reducible rfl
          try simp only [puts, gets]
          refine any_take (by kernel_rfl) (i := 2) (oi := _) (v := ?_) rfl rfl (by kernel_rfl) (by kernel_rfl) (by kernel_rfl) (fun _ _ _ h => h) (Or.inl ⟨by rfl, ?_⟩) hHeld ?_
          rotate_left
          · intro w' hSw; try dsimp only at hSw
            go_simp
            try with_reducible rfl
          try simp only [puts, gets]
          refine any_take (by kernel_rfl) (i := 3) (oi := _) (v := ?_) rfl rfl (by kernel_rfl) (by kernel_rfl) (by kernel_rfl) (fun _ _ _ h => h) (Or.inl ⟨by rfl, ?_⟩) hHeld ?_
          rotate_left
          · intro w' hSw; try dsimp only at hSw
            go_simp
            try with_reducible rfl
          try simp only [puts, gets]
          refine any_take (by kernel_rfl) (i := 4) (oi := _) (v := ?_) rfl rfl (by kernel_rfl) (by kernel_rfl) (by kernel_rfl) (fun _ _ _ h => h) (Or.inl ⟨by rfl, ?_⟩) hHeld ?_
          rotate_left
          · intro w' hSw; try dsimp only at hSw
            go_simp
            try with_reducible rfl
          try simp only [puts, gets]
          refine any_take (by kernel_rfl) (i := 5) (oi := _) (v := ?_) rfl rfl (by kernel_rfl) (by kernel_rfl) (by kernel_rfl) (fun _ _ _ h => h) (Or.inl ⟨by rfl, ?_⟩) hHeld ?_
          rotate_left
          · intro w' hSw; try dsimp only at hSw
            go_simp
            try with_reducible rfl
          try simp only [puts, gets]
          refine any_next (i := 6) (by kernel_rfl) rfl rfl (fun K hK => ?_)
          go_simp
          go_at_call 68
          refine (hSa _ (hT.keep bD) (ha.keep bD)).mono ?_
          rintro e wq ⟨rfl, bC⟩
          replace bD := below_trans bD bC
          clear bC
          refine hK.out _ _ ?_ (fun hHeld => ?_)
          · exact HALL _ bD
          clear hK K
          try simp only [puts, gets]
          refine any_take (by kernel_rfl) (i := 7) (oi := _) (v := ?_) rfl rfl (by kernel_rfl) (by kernel_rfl) (by kernel_rfl) (fun _ _ _ h => h) (Or.inl ⟨by rfl, ?_⟩) hHeld ?_
          rotate_left
          · intro w' hSw; try dsimp only at hSw
            go_simp
            try with_reducible rfl
          try simp only [puts, gets]
          refine any_take (by kernel_rfl) (i := 8) (oi := _) (v := ?_) rfl rfl (by kernel_rfl) (by kernel_rfl) (by kernel_rfl) (fun _ _ _ h => h) (Or.inl ⟨by rfl, ?_⟩) hHeld ?_
          rotate_left
          · intro w' hSw; try dsimp only at hSw
            go_simp
            try with_reducible rfl
          try simp only [puts, gets]
          refine any_take (by kernel_rfl) (i := 9) (oi := _) (v := ?_) rfl rfl (by kernel_rfl) (by kernel_rfl) (by kernel_rfl) (fun _ _ _ h => h) (Or.inl ⟨by rfl, ?_⟩) hHeld ?_
          rotate_left
          · intro w' hSw; try dsimp only at hSw
            go_simp
            try with_reducible rfl
          try simp only [puts, gets]
          refine any_take (by kernel_rfl) (i := 10) (oi := _) (v := ?_) rfl rfl (by kernel_rfl) (by kernel_rfl) (by kernel_rfl) (fun _ _ _ h => h) (Or.inl ⟨by rfl, ?_⟩) hHeld ?_
          rotate_left
          · intro w' hSw; try dsimp only at hSw
            go_simp
            try with_reducible rfl
          try simp only [puts, gets]
          refine any_next (i := 11) (by kernel_rfl) rfl rfl (fun K hK => ?_)
          go_simp
          go_at_call 68
          refine (hSb _ (hT.keep bD) (hb.keep bD)).mono ?_
          rintro e wq ⟨rfl, bC⟩
          replace bD := below_trans bD bC
          clear bC
          refine hK.out _ _ ?_ (fun hHeld => ?_)
          · exact HALL _ bD
          clear hK K
          try simp only [puts, gets]
          refine any_take (by kernel_rfl) (i := 12) (oi := _) (v := ?_) rfl rfl (by kernel_rfl) (by kernel_rfl) (by kernel_rfl) (fun _ _ _ h => h) (Or.inl ⟨by rfl, ?_⟩) hHeld ?_
          rotate_left
          · intro w' hSw; try dsimp only at hSw
            go_simp
            try with_reducible rfl
          try simp only [puts, gets]
          refine any_take (by kernel_rfl) (i := 13) (oi := _) (v := ?_) rfl rfl (by kernel_rfl) (by kernel_rfl) (by kernel_rfl) (fun _ _ _ h => h) (Or.inl ⟨by rfl, ?_⟩) hHeld ?_
          rotate_left
          · intro w' hSw; try dsimp only at hSw
            go_simp
            try with_reducible rfl
          try simp only [puts, gets]
          refine any_take (by kernel_rfl) (i := 14) (oi := _) (v := undef) rfl rfl (by kernel_rfl) (by kernel_rfl) (by kernel_rfl) (fun _ _ _ h => h) (Or.inr ⟨by rfl, rfl⟩) hHeld ?_
          try simp only [puts, gets]
          refine any_take (by kernel_rfl) (i := 15) (oi := _) (v := undef) rfl rfl (by kernel_rfl) (by kernel_rfl) (by kernel_rfl) (fun _ _ _ h => h) (Or.inr ⟨by rfl, rfl⟩) hHeld ?_
          try simp only [puts, gets]
          refine any_take (by kernel_rfl) (i := 16) (oi := _) (v := undef) rfl rfl (by kernel_rfl) (by kernel_rfl) (by kernel_rfl) (fun _ _ _ h => h) (Or.inr ⟨by rfl, rfl⟩) hHeld ?_
          try simp only [puts, gets]
          refine any_take (by kernel_rfl) (i := 17) (oi := _) (v := undef) rfl rfl (by kernel_rfl) (by kernel_rfl) (by kernel_rfl) (fun _ _ _ h => h) (Or.inr ⟨by rfl, rfl⟩) hHeld ?_
          try simp only [puts, gets]
          refine any_take (by kernel_rfl) (i := 18) (oi := _) (v := ?_) rfl rfl (by kernel_rfl) (by kernel_rfl) (by kernel_rfl) (fun _ _ _ h => h) (Or.inl ⟨by rfl, ?_⟩) hHeld ?_
          rotate_left
          · intro w' hSw; try dsimp only at hSw
            go_simp
            try with_reducible rfl
          try simp only [puts, gets]
          refine any_take (by kernel_rfl) (i := 19) (oi := _) (v := ?_) rfl rfl (by kernel_rfl) (by kernel_rfl) (by kernel_rfl) (fun _ _ _ h => h) (Or.inl ⟨by rfl, ?_⟩) hHeld ?_
          rotate_left
          · intro w' hSw; try dsimp only at hSw
            go_simp
            try with_reducible rfl
          try simp only [puts, gets]
          refine any_take (by kernel_rfl) (i := 20) (oi := _) (v := ?_) rfl rfl (by kernel_rfl) (by kernel_rfl) (by kernel_rfl) (fun _ _ _ h => h) (Or.inl ⟨by rfl, ?_⟩) hHeld ?_
          rotate_left
          · intro w' hSw; try dsimp only at hSw
            go_simp
            try with_reducible rfl
          try simp only [puts, gets]
          refine any_take (by kernel_rfl) (i := 21) (oi := _) (v := ?_) rfl rfl (by kernel_rfl) (by kernel_rfl) (by kernel_rfl) (fun _ _ _ h => h) (Or.inl ⟨by rfl, ?_⟩) hHeld ?_
          rotate_left
          · intro w' hSw; try dsimp only at hSw
            go_simp
            try with_reducible rfl
          try simp only [puts, gets]
          refine any_take (by kernel_rfl) (i := 22) (oi := _) (v := ?_) rfl rfl (by kernel_rfl) (by kernel_rfl) (by kernel_rfl) (fun _ _ _ h => h) (Or.inl ⟨by rfl, ?_⟩) hHeld ?_
          rotate_left
          · intro w' hSw; try dsimp only at hSw
            go_simp
            try with_reducible rfl
          try simp only [puts, gets]
          refine any_take (by kernel_rfl) (i := 23) (oi := _) (v := ?_) rfl rfl (by kernel_rfl) (by kernel_rfl) (by kernel_rfl) (fun _ _ _ h => h) (Or.inl ⟨by rfl, ?_⟩) hHeld ?_
          rotate_left
          · intro w' hSw; try dsimp only at hSw
            go_simp
            try with_reducible rfl
          try simp only [puts, gets]
          refine any_take (by kernel_rfl) (i := 24) (oi := _) (v := ?_) rfl rfl (by kernel_rfl) (by kernel_rfl) (by kernel_rfl) (fun _ _ _ h => h) (Or.inl ⟨by rfl, ?_⟩) hHeld ?_
          rotate_left
          · intro w' hSw; try dsimp only at hSw
            go_simp
            try with_reducible rfl
          try simp only [puts, gets]
          refine any_take (by kernel_rfl) (i := 25) (oi := _) (v := ?_) rfl rfl (by kernel_rfl) (by kernel_rfl) (by kernel_rfl) (fun _ _ _ h => h) (Or.inl ⟨by rfl, ?_⟩) hHeld ?_
          rotate_left
          · intro w' hSw; try dsimp only at hSw
            go_simp
            try with_reducible rfl
          try simp only [puts, gets]
          have bX := below_new wq (.cells #[z.vv, z.kv, z.wv, x.vv, x.kv, x.wv, y.vv, y.kv, y.wv] 64)
          have hL : IsTries (wq.alloc (.cells #[z.vv, z.kv, z.wv, x.vv, x.kv, x.wv, y.vv, y.kv, y.wv] 64)) (.slice (some ⟨wq.heap.size, 0, none⟩) 3 3) [z, x, y] := isTries_lit (l := [z, x, y]) (by simp) (by
            intro t ht
            simp only [List.mem_cons, List.not_mem_nil, or_false] at ht
            rcases ht with rfl | rfl | rfl
            · exact hz.keep bD
            · exact hx.keep bD
            · exact hy.keep bD)
          have hLl : ∀ t ∈ ([z, x, y] : List TR), t.vs.length ≤ 100000 := by
            intro t ht
            simp only [List.mem_cons, List.not_mem_nil, or_false] at ht
            rcases ht with rfl | rfl | rfl
            · exact HLz.out
            · exact HLx.out
            · exact HLy.out
          have hLi : ∀ t ∈ ([z, x, y] : List TR), IncV t.vs := by
            intro t ht
            simp only [List.mem_cons, List.not_mem_nil, or_false] at ht
            rcases ht with rfl | rfl | rfl
            · exact HIz.out
            · exact HIx.out
            · exact HIy.out
          refine any_next (i := 26) (by kernel_rfl) rfl rfl (fun K hK => ?_)
          go_simp
          refine hK.out _ _ ?_ (fun hHeld => ?_)
          · exact HALL _ (bD.trans (bX.mono bD.size))
          clear hK K
          try simp only [puts, gets]
          refine any_next (i := 27) (by kernel_rfl) rfl rfl (fun K hK => ?_)
          go_simp
          go_at_call 65
          refine (Common_any _ [z, x, y] _ hL hLl hLi (by simp)).mono ?_
          rintro e wm ⟨u2, L2, rfl, hU2, HL2, bC⟩
          replace bD := below_trans (bD.trans (bX.mono bD.size)) bC
          clear bC bX hL hLl hLi
          refine hK.out _ _ ?_ (fun hHeld => ?_)
          · exact HALL _ bD
          clear hK K
          try simp only [puts, gets]
          refine any_next (i := 28) (by kernel_rfl) rfl rfl (fun K hK => ?_)
          go_simp
          go_at_call 64
          refine (SameValues_any _ _ L L2 _ (hU.keep bD) hU2).mono ?_
          rintro e wq ⟨rfl, bC⟩
          rw [HL2.out, HPM.out]
          replace bD := below_trans bD bC
          clear bC
          refine hK.out _ _ ?_ (fun hHeld => ?_)
          · exact HALL _ bD
          clear hK K
          try simp only [puts, gets]
          refine any_take (by kernel_rfl) (i := 29) (oi := _) (v := ?_) rfl rfl (by kernel_rfl) (by kernel_rfl) (by kernel_rfl) (fun _ _ _ h => h) (Or.inl ⟨by rfl, ?_⟩) hHeld ?_
          rotate_left
          · intro w' hSw; try dsimp only at hSw
            go_simp
            try with_reducible rfl
          try simp only [puts, gets]
          refine any_take (by kernel_rfl) (i := 30) (oi := _) (v := ?_) rfl rfl (by kernel_rfl) (by kernel_rfl) (by kernel_rfl) (fun _ _ _ h => h) (Or.inl ⟨by rfl, ?_⟩) hHeld ?_
          rotate_left
          · intro w' hSw; try dsimp only at hSw
            go_simp
            try with_reducible rfl
          try simp only [puts, gets]
          refine any_take (by kernel_rfl) (i := 31) (oi := _) (v := ?_) rfl rfl (by kernel_rfl) (by kernel_rfl) (by kernel_rfl) (fun _ _ _ h => h) (Or.inl ⟨by rfl, ?_⟩) hHeld ?_
          rotate_left
          · intro w' hSw; try dsimp only at hSw
            go_simp
            try with_reducible rfl
          try simp only [puts, gets]
          refine any_take (by kernel_rfl) (i := 34) (oi := _) (v := ?_) rfl rfl (by kernel_rfl) (by kernel_rfl) (by kernel_rfl) (fun _ _ _ h => h) (Or.inl ⟨by rfl, ?_⟩) hHeld ?_
          rotate_left
          · intro w' hSw; try dsimp only at hSw
            go_simp
            try with_reducible rfl
          try simp only [puts, gets]
          refine any_take (by kernel_rfl) (i := 35) (oi := _) (v := ?_) rfl rfl (by kernel_rfl) (by kernel_rfl) (by kernel_rfl) (fun _ _ _ h => h) (Or.inl ⟨by rfl, ?_⟩) hHeld ?_
          rotate_left
          · intro w' hSw; try dsimp only at hSw
            go_simp
            try with_reducible rfl
          try simp only [puts, gets]
          have bX := below_new wq (.cells #[x.vv, x.kv, x.wv] 64)
          have hL : IsTries (wq.alloc (.cells #[x.vv, x.kv, x.wv] 64)) (.slice (some ⟨wq.heap.size, 0, none⟩) 1 1) [x] := isTries_lit (l := [x]) (by simp) (by
            intro t ht
            simp only [List.mem_cons, List.not_mem_nil, or_false] at ht
            rcases ht with rfl
            · exact hx.keep bD)
          have hLl : ∀ t ∈ ([x] : List TR), t.vs.length ≤ 100000 := by
            intro t ht
            simp only [List.mem_cons, List.not_mem_nil, or_false] at ht
            rcases ht with rfl
            · exact HLx.out
          have hLi : ∀ t ∈ ([x] : List TR), IncV t.vs := by
            intro t ht
            simp only [List.mem_cons, List.not_mem_nil, or_false] at ht
            rcases ht with rfl
            · exact HIx.out
          refine any_next (i := 32) (by kernel_rfl) rfl rfl (fun K hK => ?_)
          go_simp
          refine hK.out _ _ ?_ (fun hHeld => ?_)
          · exact HALL _ (bD.trans (bX.mono bD.size))
          clear hK K
          try simp only [puts, gets]
          refine any_next (i := 33) (by kernel_rfl) rfl rfl (fun K hK => ?_)
          go_simp
          go_at_call 65
          refine (Common_any _ [x] _ hL hLl hLi (by simp)).mono ?_
          rintro e wm ⟨u3, L3, rfl, hU3, HL3, bC⟩
          replace bD := below_trans (bD.trans (bX.mono bD.size)) bC
          clear bC bX hL hLl hLi
          refine hK.out _ _ ?_ (fun hHeld => ?_)
          · exact HALL _ bD
          clear hK K
          try simp only [puts, gets]
          refine any_next (i := 36) (by kernel_rfl) rfl rfl (fun K hK => ?_)
          go_simp
          go_at_call 64
          refine (SameValues_any _ _ L3 x.vs _ hU3 (hx.keep bD).vals).mono ?_
          rintro e wq ⟨rfl, bC⟩
          rw [decide_eq_true (HL3.out.trans HON.out)]
          replace bD := below_trans bD bC
          clear bC
          refine hK.out _ _ ?_ (fun hHeld => ?_)
          · exact HALL _ bD
          clear hK K
          try simp only [puts, gets]
          refine any_take (by kernel_rfl) (i := 37) (oi := _) (v := ?_) rfl rfl (by kernel_rfl) (by kernel_rfl) (by kernel_rfl) (fun _ _ _ h => h) (Or.inl ⟨by rfl, ?_⟩) hHeld ?_
          rotate_left
          · intro w' hSw; try dsimp only at hSw
            go_simp
            try with_reducible rfl
          try simp only [puts, gets]
          refine any_take (by kernel_rfl) (i := 38) (oi := _) (v := ?_) rfl rfl (by kernel_rfl) (by kernel_rfl) (by kernel_rfl) (fun _ _ _ h => h) (Or.inl ⟨by rfl, ?_⟩) hHeld ?_
          rotate_left
          · intro w' hSw; try dsimp only at hSw
            go_simp
            try with_reducible rfl
          try simp only [puts, gets]
          refine any_done (by kernel_rfl) ?_ _
          refine NoPanic.normal ?_
          go_wp2
          go_ret
          exact ⟨rfl, below_trans B1 bD⟩
        | true =>
          refine wp_region_noPanic ?_
          refine wp_region_late (fun w' => w'.cell? ⟨b9, 0, none⟩ = some (.int .i64 v.t) ∧ w'.cell? ⟨b9, 1, none⟩ = some (.int .i64 v.n) ∧ w'.cell? ⟨b9, 2, none⟩ = some (.string ⟨v.s.toArray⟩) ∧ w'.cell? ⟨b12, 0, none⟩ = some x.vv ∧ w'.cell? ⟨b12, 1, none⟩ = some x.kv ∧ w'.cell? ⟨b12, 2, none⟩ = some x.wv ∧ w'.cell? ⟨b13, 0, none⟩ = some y.vv ∧ w'.cell? ⟨b13, 1, none⟩ = some y.kv ∧ w'.cell? ⟨b13, 2, none⟩ = some y.wv ∧ w'.cell? ⟨b14, 0, none⟩ = some z.vv ∧ w'.cell? ⟨b14, 1, none⟩ = some z.kv ∧ w'.cell? ⟨b14, 2, none⟩ = some z.wv) 39 (by kernel_rfl) (HALL _ (Below.refl _ _).drew) (fun _ => ?_)
          obtain ⟨wd, hwd⟩ : ∃ x : World, wr.drew = x := ⟨_, rfl⟩
          have bD : Below wr.heap.size wr wd := by rw [← hwd]; exact (Below.refl _ _).drew
          rw [hwd]
          clear hwd
          have hHeld := HALL _ bD
          refine any_take (by kernel_rfl) (i := 0) (oi := _) (v := ?_) rfl rfl (by kernel_rfl) (by kernel_rfl) (by kernel_rfl) (fun _ _ _ h => h) (Or.inl ⟨by rfl, ?_⟩) hHeld ?_
          rotate_left
          · intro w' hSw; try dsimp only at hSw
            go_simp
            try with_reducible rfl
          try simp only [puts, gets]
          refine any_take (by kernel_rfl) (i := 1) (oi := _) (v := ?_) rfl rfl (by kernel_rfl) (by kernel_rfl) (by kernel_rfl) (fun _ _ _ h => h) (Or.inl ⟨by rfl, ?_⟩) hHeld ?_
          rotate_left
          · intro w' hSw; try dsimp only at hSw
            go_simp
            try with_reducible rfl
          try simp only [puts, gets]
          refine any_take (by kernel_rfl) (i := 2) (oi := _) (v := ?_) rfl rfl (by kernel_rfl) (by kernel_rfl) (by kernel_rfl) (fun _ _ _ h => h) (Or.inl ⟨by rfl, ?_⟩) hHeld ?_
          rotate_left
          · intro w' hSw; try dsimp only at hSw
            go_simp
            try with_reducible rfl
          try simp only [puts, gets]
          refine any_take (by kernel_rfl) (i := 3) (oi := _) (v := ?_) rfl rfl (by kernel_rfl) (by kernel_rfl) (by kernel_rfl) (fun _ _ _ h => h) (Or.inl ⟨by rfl, ?_⟩) hHeld ?_
          rotate_left
          · intro w' hSw; try dsimp only at hSw
            go_simp
            try with_reducible rfl
          try simp only [puts, gets]
          refine any_take (by kernel_rfl) (i := 4) (oi := _) (v := ?_) rfl rfl (by kernel_rfl) (by kernel_rfl) (by kernel_rfl) (fun _ _ _ h => h) (Or.inl ⟨by rfl, ?_⟩) hHeld ?_
          rotate_left
          · intro w' hSw; try dsimp only at hSw
            go_simp
            try with_reducible rfl
          try simp only [puts, gets]
          refine any_take (by kernel_rfl) (i := 5) (oi := _) (v := ?_) rfl rfl (by kernel_rfl) (by kernel_rfl) (by kernel_rfl) (fun _ _ _ h => h) (Or.inl ⟨by rfl, ?_⟩) hHeld ?_
          rotate_left
          · intro w' hSw; try dsimp only at hSw
            go_simp
            try with_reducible rfl
          try simp only [puts, gets]
          refine any_next (i := 6) (by kernel_rfl) rfl rfl (fun K hK => ?_)
          go_simp
          go_at_call 68
          refine (hSa _ (hT.keep bD) (ha.keep bD)).mono ?_
          rintro e wq ⟨rfl, bC⟩
          replace bD := below_trans bD bC
          clear bC
          refine hK.out _ _ ?_ (fun hHeld => ?_)
          · exact HALL _ bD
          clear hK K
          try simp only [puts, gets]
          refine any_take (by kernel_rfl) (i := 7) (oi := _) (v := ?_) rfl rfl (by kernel_rfl) (by kernel_rfl) (by kernel_rfl) (fun _ _ _ h => h) (Or.inl ⟨by rfl, ?_⟩) hHeld ?_
          rotate_left
          · intro w' hSw; try dsimp only at hSw
            go_simp
            try with_reducible rfl
          try simp only [puts, gets]
          refine any_take (by kernel_rfl) (i := 8) (oi := _) (v := ?_) rfl rfl (by kernel_rfl) (by kernel_rfl) (by kernel_rfl) (fun _ _ _ h => h) (Or.inl ⟨by rfl, ?_⟩) hHeld ?_
          rotate_left
          · intro w' hSw; try dsimp only at hSw
            go_simp
            try with_reducible rfl
          try simp only [puts, gets]
          refine any_take (by kernel_rfl) (i := 9) (oi := _) (v := ?_) rfl rfl (by kernel_rfl) (by kernel_rfl) (by kernel_rfl) (fun _ _ _ h => h) (Or.inl ⟨by rfl, ?_⟩) hHeld ?_
          rotate_left
          · intro w' hSw; try dsimp only at hSw
            go_simp
            try with_reducible rfl
          try simp only [puts, gets]
          refine any_take (by kernel_rfl) (i := 10) (oi := _) (v := ?_) rfl rfl (by kernel_rfl) (by kernel_rfl) (by kernel_rfl) (fun _ _ _ h => h) (Or.inl ⟨by rfl, ?_⟩) hHeld ?_
          rotate_left
          · intro w' hSw; try dsimp only at hSw
            go_simp
            try with_reducible rfl
          try simp only [puts, gets]
          refine any_next (i := 11) (by kernel_rfl) rfl rfl (fun K hK => ?_)
          go_simp
          go_at_call 68
          refine (hSb _ (hT.keep bD) (hb.keep bD)).mono ?_
          rintro e wq ⟨rfl, bC⟩
          replace bD := below_trans bD bC
          clear bC
          refine hK.out _ _ ?_ (fun hHeld => ?_)
          · exact HALL _ bD
          clear hK K
          try simp only [puts, gets]
          refine any_take (by kernel_rfl) (i := 12) (oi := _) (v := ?_) rfl rfl (by kernel_rfl) (by kernel_rfl) (by kernel_rfl) (fun _ _ _ h => h) (Or.inl ⟨by rfl, ?_⟩) hHeld ?_
          rotate_left
          · intro w' hSw; try dsimp only at hSw
            go_simp
            try with_reducible rfl
          try simp only [puts, gets]
          refine any_take (by kernel_rfl) (i := 13) (oi := _) (v := ?_) rfl rfl (by kernel_rfl) (by kernel_rfl) (by kernel_rfl) (fun _ _ _ h => h) (Or.inl ⟨by rfl, ?_⟩) hHeld ?_
          rotate_left
          · intro w' hSw; try dsimp only at hSw
            go_simp
            try with_reducible rfl
          try simp only [puts, gets]
          refine any_take (by kernel_rfl) (i := 14) (oi := _) (v := ?_) rfl rfl (by kernel_rfl) (by kernel_rfl) (by kernel_rfl) (fun _ _ _ h => h) (Or.inl ⟨by rfl, ?_⟩) hHeld ?_
          rotate_left
          · intro w' hSw; try dsimp only at hSw
            go_simp
            try with_reducible rfl
          try simp only [puts, gets]
          refine any_take (by kernel_rfl) (i := 15) (oi := _) (v := ?_) rfl rfl (by kernel_rfl) (by kernel_rfl) (by kernel_rfl) (fun _ _ _ h => h) (Or.inl ⟨by rfl, ?_⟩) hHeld ?_
          rotate_left
          · intro w' hSw; try dsimp only at hSw
            go_simp
            try with_reducible rfl
          try simp only [puts, gets]
          refine any_take (by kernel_rfl) (i := 16) (oi := _) (v := ?_) rfl rfl (by kernel_rfl) (by kernel_rfl) (by kernel_rfl) (fun _ _ _ h => h) (Or.inl ⟨by rfl, ?_⟩) hHeld ?_
          rotate_left
          · intro w' hSw; try dsimp only at hSw
            go_simp
            try with_reducible rfl
          try simp only [puts, gets]
          refine any_next (i := 17) (by kernel_rfl) rfl rfl (fun K hK => ?_)
          go_simp
          go_at_call 68
          refine (hSc _ (hT.keep bD) (hc.keep bD)).mono ?_
          rintro e wq ⟨rfl, bC⟩
          replace bD := below_trans bD bC
          clear bC
          refine hK.out _ _ ?_ (fun hHeld => ?_)
          · exact HALL _ bD
          clear hK K
          try simp only [puts, gets]
          refine any_take (by kernel_rfl) (i := 18) (oi := _) (v := ?_) rfl rfl (by kernel_rfl) (by kernel_rfl) (by kernel_rfl) (fun _ _ _ h => h) (Or.inl ⟨by rfl, ?_⟩) hHeld ?_
          rotate_left
          · intro w' hSw; try dsimp only at hSw
            go_simp
            try with_reducible rfl
          try simp only [puts, gets]
          refine any_take (by kernel_rfl) (i := 19) (oi := _) (v := ?_) rfl rfl (by kernel_rfl) (by kernel_rfl) (by kernel_rfl) (fun _ _ _ h => h) (Or.inl ⟨by rfl, ?_⟩) hHeld ?_
          rotate_left
          · intro w' hSw; try dsimp only at hSw
            go_simp
            try with_reducible rfl
          try simp only [puts, gets]
          refine any_take (by kernel_rfl) (i := 20) (oi := _) (v := ?_) rfl rfl (by kernel_rfl) (by kernel_rfl) (by kernel_rfl) (fun _ _ _ h => h) (Or.inl ⟨by rfl, ?_⟩) hHeld ?_
          rotate_left
          · intro w' hSw; try dsimp only at hSw
            go_simp
            try with_reducible rfl
          try simp only [puts, gets]
          refine any_take (by kernel_rfl) (i := 21) (oi := _) (v := ?_) rfl rfl (by kernel_rfl) (by kernel_rfl) (by kernel_rfl) (fun _ _ _ h => h) (Or.inl ⟨by rfl, ?_⟩) hHeld ?_
          rotate_left
          · intro w' hSw; try dsimp only at hSw
            go_simp
            try with_reducible rfl
          try simp only [puts, gets]
          refine any_take (by kernel_rfl) (i := 22) (oi := _) (v := ?_) rfl rfl (by kernel_rfl) (by kernel_rfl) (by kernel_rfl) (fun _ _ _ h => h) (Or.inl ⟨by rfl, ?_⟩) hHeld ?_
          rotate_left
          · intro w' hSw; try dsimp only at hSw
            go_simp
            try with_reducible rfl
          try simp only [puts, gets]
          refine any_take (by kernel_rfl) (i := 23) (oi := _) (v := ?_) rfl rfl (by kernel_rfl) (by kernel_rfl) (by kernel_rfl) (fun _ _ _ h => h) (Or.inl ⟨by rfl, ?_⟩) hHeld ?_
          rotate_left
          · intro w' hSw; try dsimp only at hSw
            go_simp
            try with_reducible rfl
          try simp only [puts, gets]
          refine any_take (by kernel_rfl) (i := 24) (oi := _) (v := ?_) rfl rfl (by kernel_rfl) (by kernel_rfl) (by kernel_rfl) (fun _ _ _ h => h) (Or.inl ⟨by rfl, ?_⟩) hHeld ?_
          rotate_left
          · intro w' hSw; try dsimp only at hSw
            go_simp
            try with_reducible rfl
          try simp only [puts, gets]
          refine any_take (by kernel_rfl) (i := 25) (oi := _) (v := ?_) rfl rfl (by kernel_rfl) (by kernel_rfl) (by kernel_rfl) (fun _ _ _ h => h) (Or.inl ⟨by rfl, ?_⟩) hHeld ?_
          rotate_left
          · intro w' hSw; try dsimp only at hSw
            go_simp
            try with_reducible rfl
          try simp only [puts, gets]
          have bX := below_new wq (.cells #[z.vv, z.kv, z.wv, x.vv, x.kv, x.wv, y.vv, y.kv, y.wv] 64)
          have hL : IsTries (wq.alloc (.cells #[z.vv, z.kv, z.wv, x.vv, x.kv, x.wv, y.vv, y.kv, y.wv] 64)) (.slice (some ⟨wq.heap.size, 0, none⟩) 3 3) [z, x, y] := isTries_lit (l := [z, x, y]) (by simp) (by
            intro t ht
            simp only [List.mem_cons, List.not_mem_nil, or_false] at ht
            rcases ht with rfl | rfl | rfl
            · exact hz.keep bD
            · exact hx.keep bD
            · exact hy.keep bD)
          have hLl : ∀ t ∈ ([z, x, y] : List TR), t.vs.length ≤ 100000 := by
            intro t ht
            simp only [List.mem_cons, List.not_mem_nil, or_false] at ht
            rcases ht with rfl | rfl | rfl
            · exact HLz.out
            · exact HLx.out
            · exact HLy.out
          have hLi : ∀ t ∈ ([z, x, y] : List TR), IncV t.vs := by
            intro t ht
            simp only [List.mem_cons, List.not_mem_nil, or_false] at ht
            rcases ht with rfl | rfl | rfl
            · exact HIz.out
            · exact HIx.out
            · exact HIy.out
          refine any_next (i := 26) (by kernel_rfl) rfl rfl (fun K hK => ?_)
          go_simp
          refine hK.out _ _ ?_ (fun hHeld => ?_)
          · exact HALL _ (bD.trans (bX.mono bD.size))
          clear hK K
          try simp only [puts, gets]
          refine any_next (i := 27) (by kernel_rfl) rfl rfl (fun K hK => ?_)
          go_simp
          go_at_call 65
          refine (Common_any _ [z, x, y] _ hL hLl hLi (by simp)).mono ?_
          rintro e wm ⟨u2, L2, rfl, hU2, HL2, bC⟩
          replace bD := below_trans (bD.trans (bX.mono bD.size)) bC
          clear bC bX hL hLl hLi
          refine hK.out _ _ ?_ (fun hHeld => ?_)
          · exact HALL _ bD
          clear hK K
          try simp only [puts, gets]
          refine any_next (i := 28) (by kernel_rfl) rfl rfl (fun K hK => ?_)
          go_simp
          go_at_call 64
          refine (SameValues_any _ _ L L2 _ (hU.keep bD) hU2).mono ?_
          rintro e wq ⟨rfl, bC⟩
          rw [HL2.out, HPM.out]
          replace bD := below_trans bD bC
          clear bC
          refine hK.out _ _ ?_ (fun hHeld => ?_)
          · exact HALL _ bD
          clear hK K
          try simp only [puts, gets]
          refine any_take (by kernel_rfl) (i := 29) (oi := _) (v := ?_) rfl rfl (by kernel_rfl) (by kernel_rfl) (by kernel_rfl) (fun _ _ _ h => h) (Or.inl ⟨by rfl, ?_⟩) hHeld ?_
          rotate_left
          · intro w' hSw; try dsimp only at hSw
            go_simp
            try with_reducible rfl
          try simp only [puts, gets]
          refine any_take (by kernel_rfl) (i := 30) (oi := _) (v := ?_) rfl rfl (by kernel_rfl) (by kernel_rfl) (by kernel_rfl) (fun _ _ _ h => h) (Or.inl ⟨by rfl, ?_⟩) hHeld ?_
          rotate_left
          · intro w' hSw; try dsimp only at hSw
            go_simp
            try with_reducible rfl
          try simp only [puts, gets]
          refine any_take (by kernel_rfl) (i := 31) (oi := _) (v := ?_) rfl rfl (by kernel_rfl) (by kernel_rfl) (by kernel_rfl) (fun _ _ _ h => h) (Or.inl ⟨by rfl, ?_⟩) hHeld ?_
          rotate_left
          · intro w' hSw; try dsimp only at hSw
            go_simp
            try with_reducible rfl
          try simp only [puts, gets]
          refine any_take (by kernel_rfl) (i := 34) (oi := _) (v := ?_) rfl rfl (by kernel_rfl) (by kernel_rfl) (by kernel_rfl) (fun _ _ _ h => h) (Or.inl ⟨by rfl, ?_⟩) hHeld ?_
          rotate_left
          · intro w' hSw; try dsimp only at hSw
            go_simp
            try with_reducible rfl
          try simp only [puts, gets]
          refine any_take (by kernel_rfl) (i := 35) (oi := _) (v := ?_) rfl rfl (by kernel_rfl) (by kernel_rfl) (by kernel_rfl) (fun _ _ _ h => h) (Or.inl ⟨by rfl, ?_⟩) hHeld ?_
          rotate_left
          · intro w' hSw; try dsimp only at hSw
            go_simp
            try with_reducible rfl
          try simp only [puts, gets]
          have bX := below_new wq (.cells #[x.vv, x.kv, x.wv] 64)
          have hL : IsTries (wq.alloc (.cells #[x.vv, x.kv, x.wv] 64)) (.slice (some ⟨wq.heap.size, 0, none⟩) 1 1) [x] := isTries_lit (l := [x]) (by simp) (by
            intro t ht
            simp only [List.mem_cons, List.not_mem_nil, or_false] at ht
            rcases ht with rfl
            · exact hx.keep bD)
          have hLl : ∀ t ∈ ([x] : List TR), t.vs.length ≤ 100000 := by
            intro t ht
            simp only [List.mem_cons, List.not_mem_nil, or_false] at ht
            rcases ht with rfl
            · exact HLx.out
          have hLi : ∀ t ∈ ([x] : List TR), IncV t.vs := by
            intro t ht
            simp only [List.mem_cons, List.not_mem_nil, or_false] at ht
            rcases ht with rfl
            · exact HIx.out
          refine any_next (i := 32) (by kernel_rfl) rfl rfl (fun K hK => ?_)
          go_simp
          refine hK.out _ _ ?_ (fun hHeld => ?_)
          · exact HALL _ (bD.trans (bX.mono bD.size))
          clear hK K
          try simp only [puts, gets]
          refine any_next (i := 33) (by kernel_rfl) rfl rfl (fun K hK => ?_)
          go_simp
          go_at_call 65
          refine (Common_any _ [x] _ hL hLl hLi (by simp)).mono ?_
          rintro e wm ⟨u3, L3, rfl, hU3, HL3, bC⟩
          replace bD := below_trans (bD.trans (bX.mono bD.size)) bC
          clear bC bX hL hLl hLi
          refine hK.out _ _ ?_ (fun hHeld => ?_)
          · exact HALL _ bD
          clear hK K
          try simp only [puts, gets]
          refine any_next (i := 36) (by kernel_rfl) rfl rfl (fun K hK => ?_)
          go_simp
          go_at_call 64
          refine (SameValues_any _ _ L3 x.vs _ hU3 (hx.keep bD).vals).mono ?_
          rintro e wq ⟨rfl, bC⟩
          rw [decide_eq_true (HL3.out.trans HON.out)]
          replace bD := below_trans bD bC
          clear bC
          refine hK.out _ _ ?_ (fun hHeld => ?_)
          · exact HALL _ bD
          clear hK K
          try simp only [puts, gets]
          refine any_take (by kernel_rfl) (i := 37) (oi := _) (v := ?_) rfl rfl (by kernel_rfl) (by kernel_rfl) (by kernel_rfl) (fun _ _ _ h => h) (Or.inl ⟨by rfl, ?_⟩) hHeld ?_
          rotate_left
          · intro w' hSw; try dsimp only at hSw
            go_simp
            try with_reducible rfl
          try simp only [puts, gets]
          refine any_take (by kernel_rfl) (i := 38) (oi := _) (v := ?_) rfl rfl (by kernel_rfl) (by kernel_rfl) (by kernel_rfl) (fun _ _ _ h => h) (Or.inl ⟨by rfl, ?_⟩) hHeld ?_
          rotate_left
          · intro w' hSw; try dsimp only at hSw
            go_simp
            try with_reducible rfl
          try simp only [puts, gets]
          refine any_done (by kernel_rfl) ?_ _
          refine NoPanic.normal ?_
          go_wp2
          go_ret
          exact ⟨rfl, below_trans B1 bD⟩
end Go.Proofs.YtdibijhaiaiifaaDoor
