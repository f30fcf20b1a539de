/- The walk of the law RelationParts. -/
import Derived.Test.YtdibijhaiaiifaaDoorHb
import Derived.Test.YtdibijhaiaiifaaDoorLp
namespace Go.Proofs.YtdibijhaiaiifaaDoor
open Go.RowKit
set_option maxHeartbeats 4000000 in
set_option maxRecDepth 1000000 in
theorem law8_any (va vb : Value) (xs ys : List RR) (w : World) (hT : Tab w) (ha : IsRel w va xs) (hb : IsRel w vb ys) : Calls Tryd.prog 8 #[va, vb] w fun e w' => e = .returned (.bool true) ∧ Below w.heap.size w w' := by
  go_enter Tryd.func8, Tryd.ntmps8
  go_wp2_with fail
  refine (head_any _ hT).mono ?_
  rintro e w1 ⟨rfl, B1⟩
  replace hT := hT.keep B1
  replace ha := ha.keep B1
  replace hb := hb.keep B1
  go_wp2_with fail
  refine (fewR_any _ xs _ ha).mono ?_
  rintro e w2 ⟨rfl, bN⟩
  replace hT := hT.keep bN
  replace ha := ha.keep bN
  replace hb := hb.keep bN
  replace B1 := below_trans B1 bN
  clear bN
  cases hfx : fewR xs
  · clear hfx
    go_wp2
    go_ret
    exact ⟨rfl, B1⟩
  have HX := Lib.hid (fewR_sml hfx)
  clear hfx
  go_wp2_with fail
  refine (fewR_any _ ys _ hb).mono ?_
  rintro e w3 ⟨rfl, bN⟩
  replace hT := hT.keep bN
  replace ha := ha.keep bN
  replace hb := hb.keep bN
  replace B1 := below_trans B1 bN
  clear bN
  cases hfy : fewR ys
  · clear hfy
    go_wp2
    go_ret
    exact ⟨rfl, B1⟩
  have HY := Lib.hid (fewR_sml hfy)
  clear hfy
  go_wp2_with fail
  refine (MeetR_any _ _ xs ys _ hT ha hb (HX.out.mono (by decide)) (HY.out.mono (by decide))).mono ?_
  rintro e w4 ⟨u, rfl, ms, Rm, Om, bN⟩
  replace Rm := Rm.rel
  have HM := Lib.hid Om
  have HMS := Lib.hid ((Om.sml _ _ HX.out HY.out).mono (m := 10000) (by decide))
  clear Om
  replace hT := hT.keep bN
  replace ha := ha.keep bN
  replace hb := hb.keep bN
  replace B1 := below_trans B1 bN
  clear bN
  go_wp2_with fail
  refine (MinusR_any _ _ xs ys _ hT ha hb (HX.out.mono (by decide)) (HY.out.mono (by decide))).mono ?_
  rintro e w5 ⟨u2, rfl, ds, Rd, Od, bN⟩
  replace Rd := Rd.rel
  have HD := Lib.hid Od
  have HDS := Lib.hid ((Od.sml _ _ HX.out HY.out).mono (m := 10000) (by decide))
  clear Od
  replace hT := hT.keep bN
  replace ha := ha.keep bN
  replace hb := hb.keep bN
  replace Rm := Rm.keep bN
  replace B1 := below_trans B1 bN
  clear bN
  go_wp2_with fail
  refine (UnionR_any _ _ ms ds _ hT Rm Rd HMS.out HDS.out).mono ?_
  rintro e w6 ⟨u3, rfl, us, Ru, Ou, bN⟩
  replace Ru := Ru.rel
  have HU := Lib.hid Ou
  clear Ou
  replace hT := hT.keep bN
  replace ha := ha.keep bN
  replace hb := hb.keep bN
  replace Rm := Rm.keep bN
  replace Rd := Rd.keep bN
  replace B1 := below_trans B1 bN
  clear bN
  go_wp2_with fail
  refine (UnionR_any _ _ xs [] _ hT ha (IsRel.nil _) (HX.out.mono (by decide)) (Sml.nil _)).mono ?_
  rintro e w7 ⟨u4, rfl, vs, Rv, Ov, bN⟩
  replace Rv := Rv.rel
  have HE := Lib.hid (parts_union HM.out HD.out HU.out Ov)
  clear Ov
  replace hT := hT.keep bN
  replace ha := ha.keep bN
  replace hb := hb.keep bN
  replace Rm := Rm.keep bN
  replace Rd := Rd.keep bN
  replace Ru := Ru.keep bN
  replace B1 := below_trans B1 bN
  clear bN HU
  go_wp2_with fail
  refine (rSameR_any _ _ us vs _ Ru Rv).mono ?_
  rintro e w8 ⟨rfl, bN⟩
  rw [decide_eq_true HE.out]
  replace hT := hT.keep bN
  replace ha := ha.keep bN
  replace hb := hb.keep bN
  replace Rm := Rm.keep bN
  replace Rd := Rd.keep bN
  replace B1 := below_trans B1 bN
  clear bN Ru Rv HE
  go_wp2_with fail
  refine (MeetR_any _ _ ms ds _ hT Rm Rd HMS.out HDS.out).mono ?_
  rintro e w9 ⟨u5, rfl, zs, Rz, Oz, bN⟩
  replace Rz := Rz.rel
  have hz := parts_meet HM.out HD.out Oz
  obtain ⟨pz, cz, rfl, -⟩ := Rz.shape
  rw [hz]
  clear Oz Rz hz
  replace hT := hT.keep bN
  replace ha := ha.keep bN
  replace hb := hb.keep bN
  replace Rm := Rm.keep bN
  replace Rd := Rd.keep bN
  replace B1 := below_trans B1 bN
  clear bN
  go_wp2_with fail
  refine (MeetR_any _ _ ys xs _ hT hb ha (HY.out.mono (by decide)) (HX.out.mono (by decide))).mono ?_
  rintro e w10 ⟨u6, rfl, ns, Rn, On, bN⟩
  replace Rn := Rn.rel
  have HE := Lib.hid (parts_comm HM.out On)
  clear On
  replace hT := hT.keep bN
  replace ha := ha.keep bN
  replace Rm := Rm.keep bN
  replace Rd := Rd.keep bN
  replace B1 := below_trans B1 bN
  clear bN hb
  go_wp2_with fail
  refine (rSameR_any _ _ ms ns _ Rm Rn).mono ?_
  rintro e w11 ⟨rfl, bN⟩
  rw [decide_eq_true HE.out]
  replace hT := hT.keep bN
  replace ha := ha.keep bN
  replace Rm := Rm.keep bN
  replace Rd := Rd.keep bN
  replace B1 := below_trans B1 bN
  clear bN Rn HE
  go_wp2_with fail
  refine (MinusR_any _ _ xs ds _ hT ha Rd (HX.out.mono (by decide)) HDS.out).mono ?_
  rintro e w12 ⟨u7, rfl, qs, Rq, Oq, bN⟩
  replace Rq := Rq.rel
  have HE := Lib.hid (parts_minus HM.out HD.out Oq)
  clear Oq
  replace Rm := Rm.keep bN
  replace B1 := below_trans B1 bN
  clear bN
  go_wp2_with fail
  refine (rSameR_any _ _ qs ms _ Rq Rm).mono ?_
  rintro e w13 ⟨rfl, bN⟩
  rw [decide_eq_true HE.out]
  replace B1 := below_trans B1 bN
  go_wp2
  go_ret
  exact ⟨rfl, B1⟩
end Go.Proofs.YtdibijhaiaiifaaDoor
