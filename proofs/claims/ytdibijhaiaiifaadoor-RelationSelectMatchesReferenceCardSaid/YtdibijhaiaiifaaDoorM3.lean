/- The walks of the laws RelationSelectMatchesReference and RelationMatchesReference. -/
import Derived.Test.YtdibijhaiaiifaaDoorJ5
import Derived.Test.YtdibijhaiaiifaaDoorJ6
namespace Go.Proofs.YtdibijhaiaiifaaDoor
open Go.RowKit
theorem ref_op {op : Bool → Bool → Bool} {xs ys es fs : List RR} (he : OpOf op xs ys es) (hf : OpOf op xs ys fs) : rows es = rows fs := same_of he.can hf.can fun t k hk => by rw [he.mom t k hk, hf.mom t k hk]
set_option maxHeartbeats 4000000 in
set_option maxRecDepth 1000000 in
theorem law4_any (va vt : Value) (xs : List RR) (ts : List Tm) (w : World) (hT : Tab w) (ha : IsRel w va xs) (ht : IsTerms w vt ts) : Calls Tryd.prog 4 #[va, vt] w fun e w' => e = .returned (.bool true) ∧ Below w.heap.size w w' := by
  obtain ⟨pt, pc, rfl, -⟩ := ht.shape
  go_enter Tryd.func4, Tryd.ntmps4
  go_wp2_with fail
  refine (head_any _ hT).mono ?_
  rintro e w1 ⟨rfl, B1⟩
  replace hT := hT.keep B1
  replace ha := ha.keep B1
  replace ht := ht.keep B1
  go_wp2_with fail
  refine (fewR_any _ xs _ ha).mono ?_
  rintro e w2 ⟨rfl, bN⟩
  replace hT := hT.keep bN
  replace ha := ha.keep bN
  replace ht := ht.keep bN
  replace B1 := below_trans B1 bN
  clear bN
  cases hf : fewR xs
  · clear hf
    go_wp2
    go_ret
    exact ⟨rfl, B1⟩
  have HX := Lib.hid (fewR_sml hf)
  clear hf
  by_cases hl : 6 < ts.length
  · have hlz : (6 : Int) < (ts.length : Int) := by omega
    go_wp2
    go_ret
    exact ⟨rfl, B1⟩
  have hlz : ¬ (6 : Int) < (ts.length : Int) := by omega
  clear hl
  go_wp2_with fail
  refine (SelectR_any _ _ xs ts _ hT ha ht (HX.out.mono (by decide))).mono ?_
  rintro e ws ⟨us, rfl, ls, Rs, Os, bN⟩
  replace Rs := Rs.rel
  have Hs := Lib.hid Os
  clear Os
  replace hT := hT.keep bN
  replace ha := ha.keep bN
  replace ht := ht.keep bN
  replace B1 := below_trans B1 bN
  clear bN
  go_wp2_with fail
  refine (rSelectR_any _ _ xs ts _ ha ht (HX.out.mono (by decide))).mono ?_
  rintro e wr ⟨ur, rfl, lr, Rr, Or, bN⟩
  have Hr := Lib.hid Or
  clear Or
  replace hT := hT.keep bN
  replace ha := ha.keep bN
  replace ht := ht.keep bN
  replace Rs := Rs.keep bN
  replace B1 := below_trans B1 bN
  clear bN
  go_wp2_with fail
  refine (rSameR_any _ _ ls lr _ Rs Rr).mono ?_
  rintro e ws ⟨rfl, bN⟩
  rw [decide_eq_true (same_of Hs.out.can Hr.out.1 fun t k hk => by rw [Hs.out.mom t k hk, Hr.out.2 t k hk])]
  replace hT := hT.keep bN
  replace ha := ha.keep bN
  replace ht := ht.keep bN
  replace B1 := below_trans B1 bN
  clear bN
  clear Rs Rr
  go_wp2
  go_ret
  exact ⟨rfl, B1⟩
set_option maxHeartbeats 8000000 in
set_option maxRecDepth 1000000 in
theorem law3_any (vy va vb vt vs : Value) (m : Int) (ty : List Int) (xs ys : List RR) (t : Tp) (s : List Sp) (w : World) (hT : Tab w) (hy : IsInts w vy ty) (ha : IsRel w va xs) (hb : IsRel w vb ys) (ht : IsVals w vt t) (hs : IsSpans w vs s) : Calls Tryd.prog 3 #[vy, va, vb, vt, vs, .int .i64 m] w fun e w' => e = .returned (.bool true) ∧ Below w.heap.size w w' := by
  obtain ⟨py, cy, rfl, -⟩ := id hy
  obtain ⟨pt, ct, rfl, -⟩ := id ht
  obtain ⟨ps, cs, rfl, -⟩ := id hs
  go_enter Tryd.func3, Tryd.ntmps3
  go_wp2_with fail
  refine (head_any _ hT).mono ?_
  rintro e w1 ⟨rfl, B1⟩
  replace hT := hT.keep B1
  replace hy := hy.keep B1
  replace ha := ha.keep B1
  replace hb := hb.keep B1
  replace ht := ht.keep B1
  replace hs := hs.keep B1
  go_wp2_with fail
  refine (few_any _ _ _ _ xs ys t s _ ha hb ht hs).mono ?_
  rintro e w2 ⟨rfl, bN⟩
  replace hT := hT.keep bN
  replace hy := hy.keep bN
  replace ha := ha.keep bN
  replace hb := hb.keep bN
  replace ht := ht.keep bN
  replace hs := hs.keep bN
  replace B1 := below_trans B1 bN
  clear bN
  cases hf : fewL xs ys t s
  · clear hf
    go_wp2
    go_ret
    exact ⟨rfl, B1⟩
  obtain ⟨f1, f2, f3, f4⟩ := few_tuple hf
  clear hf
  have HX := Lib.hid (fewR_sml f1)
  have HY := Lib.hid (fewR_sml f2)
  have H3 := Lib.hid f3
  have H4 := Lib.hid f4
  clear f1 f2 f3 f4
  by_cases hl : 6 < ty.length
  · have hlz : (6 : Int) < (ty.length : Int) := by omega
    go_wp2
    go_ret
    exact ⟨rfl, B1⟩
  have hlz : ¬ (6 : Int) < (ty.length : Int) := by omega
  clear hl
  go_wp2_with fail
  refine (ValidR_any _ _ ty xs _ hT hy ha).mono ?_
  rintro e wv ⟨q1, rfl, hq1, bN⟩
  have HQ1 := Lib.hid hq1
  clear hq1
  replace hT := hT.keep bN
  replace hy := hy.keep bN
  replace ha := ha.keep bN
  replace hb := hb.keep bN
  replace ht := ht.keep bN
  replace hs := hs.keep bN
  replace B1 := below_trans B1 bN
  clear bN
  go_wp2_with fail
  refine (rValidR_any _ _ ty xs _ hy ha (HX.out.mono (by decide))).mono ?_
  rintro e wv2 ⟨q2, rfl, hq2, bN⟩
  obtain rfl : q1 = q2 := by rw [Bool.eq_iff_iff, HQ1.out, hq2]
  clear hq2
  replace hT := hT.keep bN
  replace ha := ha.keep bN
  replace hb := hb.keep bN
  replace ht := ht.keep bN
  replace hs := hs.keep bN
  replace B1 := below_trans B1 bN
  clear bN
  clear hy
  have hqq : (q1 == q1) = true := by cases q1 <;> rfl
  go_wp2_with fail
  refine (WhenR_any _ _ xs t _ hT ha ht (HX.out.mono (by decide))).mono ?_
  rintro e wd ⟨ud, rfl, Sd, bN⟩
  replace Sd := Sd.1
  replace hT := hT.keep bN
  replace ha := ha.keep bN
  replace hb := hb.keep bN
  replace ht := ht.keep bN
  replace hs := hs.keep bN
  replace B1 := below_trans B1 bN
  clear bN
  go_wp2_with fail
  refine (rWhen_any _ _ xs t _ ha ht (HX.out.mono (by decide))).mono ?_
  rintro e we ⟨ue, rfl, Se, bN⟩
  replace hT := hT.keep bN
  replace ha := ha.keep bN
  replace hb := hb.keep bN
  replace ht := ht.keep bN
  replace hs := hs.keep bN
  replace Sd := Sd.keep bN
  replace B1 := below_trans B1 bN
  clear bN
  go_wp2_with fail
  refine (Same_any _ _ _ _ _ Sd Se).mono ?_
  rintro e wf ⟨rfl, bN⟩
  rw [decide_eq_true rfl]
  replace hT := hT.keep bN
  replace ha := ha.keep bN
  replace hb := hb.keep bN
  replace ht := ht.keep bN
  replace hs := hs.keep bN
  replace B1 := below_trans B1 bN
  clear bN
  clear Sd Se
  go_wp2_with fail
  refine (InsertR_any _ _ _ xs t s _ hT ha ht hs (HX.out.mono (by decide)) (Nat.le_trans H3.out (by decide)) (Nat.le_trans H4.out (by decide))).mono ?_
  rintro e wi ⟨ui, rfl, li, Ri, Oi, bN⟩
  replace Ri := Ri.rel
  have Hi := Lib.hid Oi
  clear Oi
  replace hT := hT.keep bN
  replace ha := ha.keep bN
  replace hb := hb.keep bN
  replace ht := ht.keep bN
  replace hs := hs.keep bN
  replace B1 := below_trans B1 bN
  clear bN
  go_wp2_with fail
  refine (rInsertR_any _ _ _ xs t s _ ha ht hs (HX.out.mono (by decide)) (Nat.le_trans H3.out (by decide))).mono ?_
  rintro e wj ⟨uj, rfl, lj, Rj, Oj, bN⟩
  have Hj := Lib.hid Oj
  clear Oj
  replace hT := hT.keep bN
  replace ha := ha.keep bN
  replace hb := hb.keep bN
  replace ht := ht.keep bN
  replace hs := hs.keep bN
  replace Ri := Ri.keep bN
  replace B1 := below_trans B1 bN
  clear bN
  go_wp2_with fail
  refine (rSameR_any _ _ li lj _ Ri Rj).mono ?_
  rintro e ws ⟨rfl, bN⟩
  rw [decide_eq_true (ref_op Hi.out Hj.out)]
  replace hT := hT.keep bN
  replace ha := ha.keep bN
  replace hb := hb.keep bN
  replace ht := ht.keep bN
  replace hs := hs.keep bN
  replace B1 := below_trans B1 bN
  clear bN
  clear Ri Rj
  go_wp2_with fail
  refine (RemoveR_any _ _ _ xs t s _ hT ha ht hs (HX.out.mono (by decide)) (Nat.le_trans H3.out (by decide)) (Nat.le_trans H4.out (by decide))).mono ?_
  rintro e wr ⟨ur, rfl, lr, Rr, Or, bN⟩
  replace Rr := Rr.rel
  have Hr := Lib.hid Or
  clear Or
  replace hT := hT.keep bN
  replace ha := ha.keep bN
  replace hb := hb.keep bN
  replace ht := ht.keep bN
  replace hs := hs.keep bN
  replace B1 := below_trans B1 bN
  clear bN
  go_wp2_with fail
  refine (rRemoveR_any _ _ _ xs t s _ ha ht hs (HX.out.mono (by decide)) (Nat.le_trans H3.out (by decide))).mono ?_
  rintro e wp ⟨up, rfl, lp, Rp, Op, bN⟩
  have Hp := Lib.hid Op
  clear Op
  replace hT := hT.keep bN
  replace ha := ha.keep bN
  replace hb := hb.keep bN
  replace ht := ht.keep bN
  replace hs := hs.keep bN
  replace Rr := Rr.keep bN
  replace B1 := below_trans B1 bN
  clear bN
  go_wp2_with fail
  refine (rSameR_any _ _ lr lp _ Rr Rp).mono ?_
  rintro e ws ⟨rfl, bN⟩
  rw [decide_eq_true (ref_op Hr.out Hp.out)]
  replace hT := hT.keep bN
  replace ha := ha.keep bN
  replace hb := hb.keep bN
  replace ht := ht.keep bN
  replace hs := hs.keep bN
  replace B1 := below_trans B1 bN
  clear bN
  clear Rr Rp
  go_wp2_with fail
  refine (UnionR_any _ _ xs ys _ hT ha hb (HX.out.mono (by decide)) (HY.out.mono (by decide))).mono ?_
  rintro e wu ⟨uu, rfl, lu, Ru, Ou, bN⟩
  replace Ru := Ru.rel
  have Hu := Lib.hid Ou
  clear Ou
  replace hT := hT.keep bN
  replace ha := ha.keep bN
  replace hb := hb.keep bN
  replace ht := ht.keep bN
  replace hs := hs.keep bN
  replace B1 := below_trans B1 bN
  clear bN
  go_wp2_with fail
  refine (rUnionR_any _ _ xs ys _ ha hb (HX.out.mono (by decide)) (HY.out.mono (by decide))).mono ?_
  rintro e wv ⟨uv, rfl, lv, Rv, Ov, bN⟩
  have Hv := Lib.hid Ov
  clear Ov
  replace hT := hT.keep bN
  replace ha := ha.keep bN
  replace hb := hb.keep bN
  replace ht := ht.keep bN
  replace hs := hs.keep bN
  replace Ru := Ru.keep bN
  replace B1 := below_trans B1 bN
  clear bN
  go_wp2_with fail
  refine (rSameR_any _ _ lu lv _ Ru Rv).mono ?_
  rintro e ws ⟨rfl, bN⟩
  rw [decide_eq_true (ref_op Hu.out Hv.out)]
  replace hT := hT.keep bN
  replace ha := ha.keep bN
  replace hb := hb.keep bN
  replace ht := ht.keep bN
  replace hs := hs.keep bN
  replace B1 := below_trans B1 bN
  clear bN
  clear Ru Rv
  go_wp2_with fail
  refine (MeetR_any _ _ xs ys _ hT ha hb (HX.out.mono (by decide)) (HY.out.mono (by decide))).mono ?_
  rintro e wm ⟨um, rfl, lm, Rm, Om, bN⟩
  replace Rm := Rm.rel
  have Hm := Lib.hid Om
  clear Om
  replace hT := hT.keep bN
  replace ha := ha.keep bN
  replace hb := hb.keep bN
  replace ht := ht.keep bN
  replace hs := hs.keep bN
  replace B1 := below_trans B1 bN
  clear bN
  go_wp2_with fail
  refine (rMeetR_any _ _ xs ys _ ha hb (HX.out.mono (by decide)) (HY.out.mono (by decide))).mono ?_
  rintro e wn ⟨un, rfl, ln, Rn, On, bN⟩
  have Hn := Lib.hid On
  clear On
  replace hT := hT.keep bN
  replace ha := ha.keep bN
  replace hb := hb.keep bN
  replace ht := ht.keep bN
  replace hs := hs.keep bN
  replace Rm := Rm.keep bN
  replace B1 := below_trans B1 bN
  clear bN
  go_wp2_with fail
  refine (rSameR_any _ _ lm ln _ Rm Rn).mono ?_
  rintro e ws ⟨rfl, bN⟩
  rw [decide_eq_true (same_of Hm.out.can Hn.out.1 fun t k hk => by rw [Hm.out.mom t k hk, Hn.out.2 t k hk])]
  replace hT := hT.keep bN
  replace ha := ha.keep bN
  replace hb := hb.keep bN
  replace ht := ht.keep bN
  replace hs := hs.keep bN
  replace B1 := below_trans B1 bN
  clear bN
  clear Rm Rn
  go_wp2_with fail
  refine (MinusR_any _ _ xs ys _ hT ha hb (HX.out.mono (by decide)) (HY.out.mono (by decide))).mono ?_
  rintro e wd ⟨ud, rfl, ld, Rd, Od, bN⟩
  replace Rd := Rd.rel
  have Hd := Lib.hid Od
  clear Od
  replace hT := hT.keep bN
  replace ha := ha.keep bN
  replace hb := hb.keep bN
  replace ht := ht.keep bN
  replace hs := hs.keep bN
  replace B1 := below_trans B1 bN
  clear bN
  go_wp2_with fail
  refine (rMinusR_any _ _ xs ys _ ha hb (HX.out.mono (by decide)) (HY.out.mono (by decide))).mono ?_
  rintro e wf ⟨uf, rfl, lf, Rf, Of, bN⟩
  have Hf := Lib.hid Of
  clear Of
  replace hT := hT.keep bN
  replace ha := ha.keep bN
  replace hb := hb.keep bN
  replace ht := ht.keep bN
  replace hs := hs.keep bN
  replace Rd := Rd.keep bN
  replace B1 := below_trans B1 bN
  clear bN
  go_wp2_with fail
  refine (rSameR_any _ _ ld lf _ Rd Rf).mono ?_
  rintro e ws ⟨rfl, bN⟩
  rw [decide_eq_true (ref_op Hd.out Hf.out)]
  replace hT := hT.keep bN
  replace ha := ha.keep bN
  replace hb := hb.keep bN
  replace ht := ht.keep bN
  replace hs := hs.keep bN
  replace B1 := below_trans B1 bN
  clear bN
  clear Rd Rf
  go_wp2_with fail
  refine (AtR_any _ xs m _ hT ha (HX.out.mono (by decide))).mono ?_
  rintro e wa ⟨ua, rfl, ta, Ta, Ha, -, bN⟩
  replace hT := hT.keep bN
  replace ha := ha.keep bN
  replace hb := hb.keep bN
  replace ht := ht.keep bN
  replace hs := hs.keep bN
  replace B1 := below_trans B1 bN
  clear bN
  go_wp2_with fail
  refine (rAtR_any _ xs m _ ha (HX.out.mono (by decide))).mono ?_
  rintro e wb ⟨ub, rfl, tb, Tb, Hb, bN⟩
  replace hT := hT.keep bN
  replace ha := ha.keep bN
  replace hb := hb.keep bN
  replace ht := ht.keep bN
  replace hs := hs.keep bN
  replace Ta := Ta.keep bN
  replace B1 := below_trans B1 bN
  clear bN
  go_wp2_with fail
  refine (rSameT_any _ _ ta tb _ Ta Tb).mono ?_
  rintro e wc ⟨rfl, bN⟩
  rw [decide_eq_true (show tups ta = tups tb from at_same Ha.out Hb.out)]
  replace hT := hT.keep bN
  replace ha := ha.keep bN
  replace hb := hb.keep bN
  replace ht := ht.keep bN
  replace hs := hs.keep bN
  replace B1 := below_trans B1 bN
  clear bN
  clear Ta Tb
  go_wp2
  go_ret
  exact ⟨rfl, B1⟩
end Go.Proofs.YtdibijhaiaiifaaDoor
