/- The walk of the law RelationPoints. -/
import Derived.Test.YtdibijhaiaiifaaDoorJ5
namespace Go.Proofs.YtdibijhaiaiifaaDoor
open Go.RowKit
set_option maxHeartbeats 4000000 in
set_option maxRecDepth 1000000 in
theorem law5_any (va vb vt vs : Value) (m : Int) (xs ys : List RR) (t : Tp) (s : List Sp) (w : World) (hT : Tab w) (ha : IsRel w va xs) (hb : IsRel w vb ys) (ht : IsVals w vt t) (hs : IsSpans w vs s) : Calls Tryd.prog 5 #[va, vb, vt, vs, .int .i64 m] w fun e w' => e = .returned (.bool true) ∧ Below w.heap.size w w' := by
  obtain ⟨pt, ct, rfl, -⟩ := id ht
  obtain ⟨ps, cs, rfl, -⟩ := id hs
  go_enter Tryd.func5, Tryd.ntmps5
  go_wp2_with fail
  refine (head_any _ hT).mono ?_
  rintro e w1 ⟨rfl, B1⟩
  replace hT := hT.keep B1
  replace ha := ha.keep B1
  replace hb := hb.keep B1
  replace ht := ht.keep B1
  replace hs := hs.keep B1
  go_wp2_with fail
  refine (few_any _ _ _ _ xs ys t s _ ha hb ht hs).mono ?_
  rintro e w2 ⟨rfl, bN⟩
  replace hT := hT.keep bN
  replace ha := ha.keep bN
  replace hb := hb.keep bN
  replace ht := ht.keep bN
  replace hs := hs.keep bN
  replace B1 := below_trans B1 bN
  clear bN
  cases hf : fewL xs ys t s
  · clear hf
    go_wp2
    go_ret
    exact ⟨rfl, B1⟩
  obtain ⟨f1, f2, f3, f4⟩ := few_tuple hf
  clear hf
  have HX := Lib.hid (fewR_sml f1)
  have HY := Lib.hid (fewR_sml f2)
  have H3 := Lib.hid f3
  have H4 := Lib.hid f4
  clear f1 f2 f3 f4
  go_wp2_with fail
  refine (UnionR_any _ _ xs ys _ hT ha hb (HX.out.mono (by decide)) (HY.out.mono (by decide))).mono ?_
  rintro e wu ⟨vur, rfl, lu, Ru, Ou, bN⟩
  replace Ru := Ru.rel
  have Hu := Lib.hid Ou
  clear Ou
  replace hT := hT.keep bN
  replace ha := ha.keep bN
  replace hb := hb.keep bN
  replace ht := ht.keep bN
  replace hs := hs.keep bN
  replace B1 := below_trans B1 bN
  clear bN
  go_wp2_with fail
  refine (MeetR_any _ _ xs ys _ hT ha hb (HX.out.mono (by decide)) (HY.out.mono (by decide))).mono ?_
  rintro e wm ⟨vmr, rfl, lm, Rm, Om, bN⟩
  replace Rm := Rm.rel
  have Hm := Lib.hid Om
  clear Om
  replace hT := hT.keep bN
  replace ha := ha.keep bN
  replace hb := hb.keep bN
  replace ht := ht.keep bN
  replace hs := hs.keep bN
  replace Ru := Ru.keep bN
  replace B1 := below_trans B1 bN
  clear bN
  go_wp2_with fail
  refine (MinusR_any _ _ xs ys _ hT ha hb (HX.out.mono (by decide)) (HY.out.mono (by decide))).mono ?_
  rintro e wd ⟨vdr, rfl, ld, Rd, Od, bN⟩
  replace Rd := Rd.rel
  have Hd := Lib.hid Od
  clear Od
  replace hT := hT.keep bN
  replace ha := ha.keep bN
  replace hb := hb.keep bN
  replace ht := ht.keep bN
  replace hs := hs.keep bN
  replace Ru := Ru.keep bN
  replace Rm := Rm.keep bN
  replace B1 := below_trans B1 bN
  clear bN
  go_wp2_with fail
  refine (InsertR_any _ _ _ xs t s _ hT ha ht hs (HX.out.mono (by decide)) (Nat.le_trans H3.out (by decide)) (Nat.le_trans H4.out (by decide))).mono ?_
  rintro e wi ⟨vir, rfl, li, Ri, Oi, bN⟩
  replace Ri := Ri.rel
  have Hi := Lib.hid Oi
  clear Oi
  replace hT := hT.keep bN
  replace ha := ha.keep bN
  replace hb := hb.keep bN
  replace ht := ht.keep bN
  replace hs := hs.keep bN
  replace Ru := Ru.keep bN
  replace Rm := Rm.keep bN
  replace Rd := Rd.keep bN
  replace B1 := below_trans B1 bN
  clear bN
  go_wp2_with fail
  refine (RemoveR_any _ _ _ xs t s _ hT ha ht hs (HX.out.mono (by decide)) (Nat.le_trans H3.out (by decide)) (Nat.le_trans H4.out (by decide))).mono ?_
  rintro e wr ⟨vrr, rfl, lr, Rr, Or, bN⟩
  replace Rr := Rr.rel
  have Hr := Lib.hid Or
  clear Or
  replace hT := hT.keep bN
  replace ha := ha.keep bN
  replace hb := hb.keep bN
  replace ht := ht.keep bN
  replace hs := hs.keep bN
  replace Ru := Ru.keep bN
  replace Rm := Rm.keep bN
  replace Rd := Rd.keep bN
  replace Ri := Ri.keep bN
  replace B1 := below_trans B1 bN
  clear bN
  have h0 : Owns 2 44 encR (wr.alloc (.cells #[] 44)) wr.heap.size (.slice (some ⟨wr.heap.size, 0, none⟩) 0 0) [] := Owns.lit wr
  have b0 := below_new wr (.cells #[] 44)
  have hxa := (ha.keep b0).1
  have l1 : xs.length ≤ 40 := HX.out.len
  have l2 : ys.length ≤ 40 := HY.out.len
  go_wp2_with (at_builtin; first
    | (refine wpList_cat fitsR24 encsR rfl _ _ rfl rfl rfl h0 (Below.refl _ _) hxa (by simp) (by simp) (by omega) ?_; intro p1 c1 wa hO1 hB1 hG1; simp only [List.nil_append] at hO1; have b1 := b0.trans hB1; have hyb := (hb.keep b1).1)
    | (refine wpList_cat fitsR24 encsR rfl _ _ rfl rfl rfl hO1 (Below.refl _ _) hyb b1.size (by omega) (by omega) ?_; intro p2 c2 wb hO2 hB2 hG2; rw [List.length_append] at hO2; have b2 := b1.trans hB2; have b3 := below_new wb (.cells #[.slice pt t.length ct, .slice none 0 0] 44); have hz := IsRows.lit (e := 44) wb [(⟨pt, ct, t, none, 0, []⟩ : RR)] encsR (by simp))
    | (refine wpList_cat fitsR24 encsR rfl _ _ rfl rfl rfl hO2 b3 hz b2.size (by rw [List.length_append]; omega) (by simp) ?_; intro p3 c3 wc hO3 hB3 hG3; have b4 := b2.trans hB3))
  have hall : IsRel wc (.slice p3 (xs ++ ys ++ [(⟨pt, ct, t, none, 0, []⟩ : RR)]).length c3) (xs ++ ys ++ [(⟨pt, ct, t, none, 0, []⟩ : RR)]) := by
    refine ⟨hO3.is encsR (by rw [List.length_append, List.length_append]; simp; omega), fun x hx => ?_⟩
    rcases List.mem_append.1 hx with hx | hx
    · rcases List.mem_append.1 hx with hx | hx
      · exact (ha.2 x hx).keep b4
      · exact (hb.2 x hx).keep b4
    · rw [List.mem_singleton.1 hx]; exact ⟨ht.keep b4, IsSpans.nil _⟩
  replace hT := hT.keep b4
  replace ha := ha.keep b4
  replace hb := hb.keep b4
  replace ht := ht.keep b4
  replace hs := hs.keep b4
  replace Ru := Ru.keep b4
  replace Rm := Rm.keep b4
  replace Rd := Rd.keep b4
  replace Ri := Ri.keep b4
  replace Rr := Rr.keep b4
  replace B1 := below_trans B1 b4
  clear hO1 hO2 hO3 hB1 hB2 hB3 hG1 hG2 hG3 b0 b1 b2 b3 b4 h0 hxa hyb hz
  obtain ⟨L, hL⟩ : ∃ L, xs ++ ys ++ [(⟨pt, ct, t, none, 0, []⟩ : RR)] = L := ⟨_, rfl⟩
  have hLl : L.length ≤ 100 := by rw [← hL, List.length_append, List.length_append]; simp; omega
  have hLn : xs.length + (ys.length + 1) = L.length := by rw [← hL, List.length_append, List.length_append, Nat.add_assoc]; rfl
  rw [hL] at hall
  clear hL
  rw [hLn]
  clear hLn l1 l2
  go_loopg [18] L.length (fun g vi wq => ∃ i : Nat, vi = .int .i64 i ∧ i ≤ L.length ∧ L.length - i ≤ g ∧ Below wc.heap.size wc wq)
  case atStart => exact ⟨0, rfl, Nat.zero_le _, Nat.le_refl _, Below.refl _ _⟩
  case round =>
    obtain ⟨i, rfl, hi, hg, bR⟩ := hrel
    replace hT := hT.keep bR
    replace ha := ha.keep bR
    replace hb := hb.keep bR
    replace ht := ht.keep bR
    replace hs := hs.keep bR
    replace Ru := Ru.keep bR
    replace Rm := Rm.keep bR
    replace Rd := Rd.keep bR
    replace Ri := Ri.keep bR
    replace Rr := Rr.keep bR
    replace hall := hall.keep bR
    by_cases hlt : i < L.length
    · have hltz : (i : Int) < (L.length : Int) := by omega
      obtain ⟨x, hx⟩ := getElem_of_lt hlt
      obtain ⟨b1, o1, e, c0, c1, rx⟩ := hall.at_ hx
      cases e
      clear hx c1
      have rx := rx.1
      go_wp2_with fail
      refine (holds_any _ _ xs x.t m _ ha rx).mono ?_
      rintro e wx ⟨rfl, bN⟩
      obtain ⟨X, hX⟩ : ∃ X, holdsL xs x.t m = X := ⟨_, rfl⟩
      rw [hX]
      replace hT := hT.keep bN
      replace ha := ha.keep bN
      replace hb := hb.keep bN
      replace ht := ht.keep bN
      replace hs := hs.keep bN
      replace Ru := Ru.keep bN
      replace Rm := Rm.keep bN
      replace Rd := Rd.keep bN
      replace Ri := Ri.keep bN
      replace Rr := Rr.keep bN
      replace hall := hall.keep bN
      replace rx := rx.keep bN
      replace bR := below_trans bR bN
      clear bN
      go_wp2_with fail
      refine (holds_any _ _ ys x.t m _ hb rx).mono ?_
      rintro e wy ⟨rfl, bN⟩
      obtain ⟨Y, hY⟩ : ∃ Y, holdsL ys x.t m = Y := ⟨_, rfl⟩
      rw [hY]
      replace hT := hT.keep bN
      replace ha := ha.keep bN
      replace hb := hb.keep bN
      replace ht := ht.keep bN
      replace hs := hs.keep bN
      replace Ru := Ru.keep bN
      replace Rm := Rm.keep bN
      replace Rd := Rd.keep bN
      replace Ri := Ri.keep bN
      replace Rr := Rr.keep bN
      replace hall := hall.keep bN
      replace rx := rx.keep bN
      replace bR := below_trans bR bN
      clear bN
      go_wp2_with fail
      refine (rCompareTuple_any _ _ x.t t _ rx ht).mono ?_
      rintro e wz ⟨rfl, hgw⟩
      have bN := hgw.below
      clear hgw
      replace hT := hT.keep bN
      replace ha := ha.keep bN
      replace hb := hb.keep bN
      replace ht := ht.keep bN
      replace hs := hs.keep bN
      replace Ru := Ru.keep bN
      replace Rm := Rm.keep bN
      replace Rd := Rd.keep bN
      replace Ri := Ri.keep bN
      replace Rr := Rr.keep bN
      replace hall := hall.keep bN
      replace rx := rx.keep bN
      replace bR := below_trans bR bN
      clear bN
      have EU : Hid (holdsL lu x.t m = (X || Y)) := Lib.hid (by rw [holds_op rfl Hu.out, hX, hY]; rfl)
      have EM : Hid (holdsL lm x.t m = (X && Y)) := Lib.hid (by rw [holds_op rfl Hm.out, hX, hY]; rfl)
      have ED : Hid (holdsL ld x.t m = (X && !Y)) := Lib.hid (by rw [holds_op rfl Hd.out, hX, hY]; rfl)
      have EI : Hid (holdsL li x.t m = (X || (decide (t = x.t) && inSet s m))) := Lib.hid (by rw [holds_op rfl Hi.out, hX, holds_one]; rfl)
      have ER : Hid (holdsL lr x.t m = (X && !(decide (t = x.t) && inSet s m))) := Lib.hid (by rw [holds_op rfl Hr.out, hX, holds_one]; rfl)
      clear hX hY
      obtain ⟨z, hz⟩ : ∃ z, cmpT x.t t = z := ⟨_, rfl⟩
      rw [hz]
      by_cases h0 : z = 0
      · subst h0
        have hq : decide (t = x.t) = true := decide_eq_true ((cmpT_is.eq _ _).1 hz).symm
        rw [hq, Bool.true_and] at EI ER
        clear hq hz
        go_wp2_with fail
        refine (Has_any _ s m _ hs).mono ?_
        rintro e wh ⟨rfl, bN⟩
        replace hT := hT.keep bN
        replace ha := ha.keep bN
        replace hb := hb.keep bN
        replace ht := ht.keep bN
        replace hs := hs.keep bN
        replace Ru := Ru.keep bN
        replace Rm := Rm.keep bN
        replace Rd := Rd.keep bN
        replace Ri := Ri.keep bN
        replace Rr := Rr.keep bN
        replace hall := hall.keep bN
        replace rx := rx.keep bN
        replace bR := below_trans bR bN
        clear bN
        obtain ⟨Z, hZ⟩ : ∃ Z, inSet s m = Z := ⟨_, rfl⟩
        rw [hZ]
        rw [hZ] at EI ER
        clear hZ
        cases Z
        · skip
          cases X <;> cases Y
          all_goals
            go_wp2_with fail
            refine (holds_any _ _ lu x.t m _ Ru rx).mono ?_
            rintro e wu2 ⟨rfl, bN⟩
            rw [EU.out]
            repeat (first | rw [Bool.or_true] | rw [Bool.true_or] | rw [Bool.or_false] | rw [Bool.not_true] | rw [Bool.not_false] | rw [Bool.and_true] | rw [Bool.and_false])
            replace hT := hT.keep bN
            replace ha := ha.keep bN
            replace hb := hb.keep bN
            replace ht := ht.keep bN
            replace hs := hs.keep bN
            replace Ru := Ru.keep bN
            replace Rm := Rm.keep bN
            replace Rd := Rd.keep bN
            replace Ri := Ri.keep bN
            replace Rr := Rr.keep bN
            replace hall := hall.keep bN
            replace rx := rx.keep bN
            replace bR := below_trans bR bN
            clear bN
            go_wp2_with fail
            refine (holds_any _ _ lm x.t m _ Rm rx).mono ?_
            rintro e wm2 ⟨rfl, bN⟩
            rw [EM.out]
            repeat (first | rw [Bool.or_true] | rw [Bool.true_or] | rw [Bool.or_false] | rw [Bool.not_true] | rw [Bool.not_false] | rw [Bool.and_true] | rw [Bool.and_false])
            replace hT := hT.keep bN
            replace ha := ha.keep bN
            replace hb := hb.keep bN
            replace ht := ht.keep bN
            replace hs := hs.keep bN
            replace Ru := Ru.keep bN
            replace Rm := Rm.keep bN
            replace Rd := Rd.keep bN
            replace Ri := Ri.keep bN
            replace Rr := Rr.keep bN
            replace hall := hall.keep bN
            replace rx := rx.keep bN
            replace bR := below_trans bR bN
            clear bN
            go_wp2_with fail
            refine (holds_any _ _ ld x.t m _ Rd rx).mono ?_
            rintro e wd2 ⟨rfl, bN⟩
            rw [ED.out]
            repeat (first | rw [Bool.or_true] | rw [Bool.true_or] | rw [Bool.or_false] | rw [Bool.not_true] | rw [Bool.not_false] | rw [Bool.and_true] | rw [Bool.and_false])
            replace hT := hT.keep bN
            replace ha := ha.keep bN
            replace hb := hb.keep bN
            replace ht := ht.keep bN
            replace hs := hs.keep bN
            replace Ru := Ru.keep bN
            replace Rm := Rm.keep bN
            replace Rd := Rd.keep bN
            replace Ri := Ri.keep bN
            replace Rr := Rr.keep bN
            replace hall := hall.keep bN
            replace rx := rx.keep bN
            replace bR := below_trans bR bN
            clear bN
            go_wp2_with fail
            refine (holds_any _ _ li x.t m _ Ri rx).mono ?_
            rintro e wi2 ⟨rfl, bN⟩
            rw [EI.out]
            repeat (first | rw [Bool.or_true] | rw [Bool.true_or] | rw [Bool.or_false] | rw [Bool.not_true] | rw [Bool.not_false] | rw [Bool.and_true] | rw [Bool.and_false])
            replace hT := hT.keep bN
            replace ha := ha.keep bN
            replace hb := hb.keep bN
            replace ht := ht.keep bN
            replace hs := hs.keep bN
            replace Ru := Ru.keep bN
            replace Rm := Rm.keep bN
            replace Rd := Rd.keep bN
            replace Ri := Ri.keep bN
            replace Rr := Rr.keep bN
            replace hall := hall.keep bN
            replace rx := rx.keep bN
            replace bR := below_trans bR bN
            clear bN
            go_wp2_with fail
            refine (holds_any _ _ lr x.t m _ Rr rx).mono ?_
            rintro e wr2 ⟨rfl, bN⟩
            rw [ER.out]
            repeat (first | rw [Bool.or_true] | rw [Bool.true_or] | rw [Bool.or_false] | rw [Bool.not_true] | rw [Bool.not_false] | rw [Bool.and_true] | rw [Bool.and_false])
            replace hT := hT.keep bN
            replace ha := ha.keep bN
            replace hb := hb.keep bN
            replace ht := ht.keep bN
            replace hs := hs.keep bN
            replace Ru := Ru.keep bN
            replace Rm := Rm.keep bN
            replace Rd := Rd.keep bN
            replace Ri := Ri.keep bN
            replace Rr := Rr.keep bN
            replace hall := hall.keep bN
            replace rx := rx.keep bN
            replace bR := below_trans bR bN
            clear bN
            go_wp2
            go_roundg (L.length - (i + 1))
            case measure => omega
            case rel => exact ⟨i + 1, by go_num, hlt, Nat.le_refl _, bR⟩
        · skip
          cases X <;> cases Y
          all_goals
            go_wp2_with fail
            refine (holds_any _ _ lu x.t m _ Ru rx).mono ?_
            rintro e wu2 ⟨rfl, bN⟩
            rw [EU.out]
            repeat (first | rw [Bool.or_true] | rw [Bool.true_or] | rw [Bool.or_false] | rw [Bool.not_true] | rw [Bool.not_false] | rw [Bool.and_true] | rw [Bool.and_false])
            replace hT := hT.keep bN
            replace ha := ha.keep bN
            replace hb := hb.keep bN
            replace ht := ht.keep bN
            replace hs := hs.keep bN
            replace Ru := Ru.keep bN
            replace Rm := Rm.keep bN
            replace Rd := Rd.keep bN
            replace Ri := Ri.keep bN
            replace Rr := Rr.keep bN
            replace hall := hall.keep bN
            replace rx := rx.keep bN
            replace bR := below_trans bR bN
            clear bN
            go_wp2_with fail
            refine (holds_any _ _ lm x.t m _ Rm rx).mono ?_
            rintro e wm2 ⟨rfl, bN⟩
            rw [EM.out]
            repeat (first | rw [Bool.or_true] | rw [Bool.true_or] | rw [Bool.or_false] | rw [Bool.not_true] | rw [Bool.not_false] | rw [Bool.and_true] | rw [Bool.and_false])
            replace hT := hT.keep bN
            replace ha := ha.keep bN
            replace hb := hb.keep bN
            replace ht := ht.keep bN
            replace hs := hs.keep bN
            replace Ru := Ru.keep bN
            replace Rm := Rm.keep bN
            replace Rd := Rd.keep bN
            replace Ri := Ri.keep bN
            replace Rr := Rr.keep bN
            replace hall := hall.keep bN
            replace rx := rx.keep bN
            replace bR := below_trans bR bN
            clear bN
            go_wp2_with fail
            refine (holds_any _ _ ld x.t m _ Rd rx).mono ?_
            rintro e wd2 ⟨rfl, bN⟩
            rw [ED.out]
            repeat (first | rw [Bool.or_true] | rw [Bool.true_or] | rw [Bool.or_false] | rw [Bool.not_true] | rw [Bool.not_false] | rw [Bool.and_true] | rw [Bool.and_false])
            replace hT := hT.keep bN
            replace ha := ha.keep bN
            replace hb := hb.keep bN
            replace ht := ht.keep bN
            replace hs := hs.keep bN
            replace Ru := Ru.keep bN
            replace Rm := Rm.keep bN
            replace Rd := Rd.keep bN
            replace Ri := Ri.keep bN
            replace Rr := Rr.keep bN
            replace hall := hall.keep bN
            replace rx := rx.keep bN
            replace bR := below_trans bR bN
            clear bN
            go_wp2_with fail
            refine (holds_any _ _ li x.t m _ Ri rx).mono ?_
            rintro e wi2 ⟨rfl, bN⟩
            rw [EI.out]
            repeat (first | rw [Bool.or_true] | rw [Bool.true_or] | rw [Bool.or_false] | rw [Bool.not_true] | rw [Bool.not_false] | rw [Bool.and_true] | rw [Bool.and_false])
            replace hT := hT.keep bN
            replace ha := ha.keep bN
            replace hb := hb.keep bN
            replace ht := ht.keep bN
            replace hs := hs.keep bN
            replace Ru := Ru.keep bN
            replace Rm := Rm.keep bN
            replace Rd := Rd.keep bN
            replace Ri := Ri.keep bN
            replace Rr := Rr.keep bN
            replace hall := hall.keep bN
            replace rx := rx.keep bN
            replace bR := below_trans bR bN
            clear bN
            go_wp2_with fail
            refine (holds_any _ _ lr x.t m _ Rr rx).mono ?_
            rintro e wr2 ⟨rfl, bN⟩
            rw [ER.out]
            repeat (first | rw [Bool.or_true] | rw [Bool.true_or] | rw [Bool.or_false] | rw [Bool.not_true] | rw [Bool.not_false] | rw [Bool.and_true] | rw [Bool.and_false])
            replace hT := hT.keep bN
            replace ha := ha.keep bN
            replace hb := hb.keep bN
            replace ht := ht.keep bN
            replace hs := hs.keep bN
            replace Ru := Ru.keep bN
            replace Rm := Rm.keep bN
            replace Rd := Rd.keep bN
            replace Ri := Ri.keep bN
            replace Rr := Rr.keep bN
            replace hall := hall.keep bN
            replace rx := rx.keep bN
            replace bR := below_trans bR bN
            clear bN
            go_wp2
            go_roundg (L.length - (i + 1))
            case measure => omega
            case rel => exact ⟨i + 1, by go_num, hlt, Nat.le_refl _, bR⟩
      · have hq : decide (t = x.t) = false := decide_eq_false fun e => h0 (by rw [← hz, e]; exact (cmpT_is.eq _ _).2 rfl)
        rw [hq, Bool.false_and] at EI ER
        clear hq hz
        cases X <;> cases Y
        all_goals
          go_wp2_with fail
          refine (holds_any _ _ lu x.t m _ Ru rx).mono ?_
          rintro e wu2 ⟨rfl, bN⟩
          rw [EU.out]
          repeat (first | rw [Bool.or_true] | rw [Bool.true_or] | rw [Bool.or_false] | rw [Bool.not_true] | rw [Bool.not_false] | rw [Bool.and_true] | rw [Bool.and_false])
          replace hT := hT.keep bN
          replace ha := ha.keep bN
          replace hb := hb.keep bN
          replace ht := ht.keep bN
          replace hs := hs.keep bN
          replace Ru := Ru.keep bN
          replace Rm := Rm.keep bN
          replace Rd := Rd.keep bN
          replace Ri := Ri.keep bN
          replace Rr := Rr.keep bN
          replace hall := hall.keep bN
          replace rx := rx.keep bN
          replace bR := below_trans bR bN
          clear bN
          go_wp2_with fail
          refine (holds_any _ _ lm x.t m _ Rm rx).mono ?_
          rintro e wm2 ⟨rfl, bN⟩
          rw [EM.out]
          repeat (first | rw [Bool.or_true] | rw [Bool.true_or] | rw [Bool.or_false] | rw [Bool.not_true] | rw [Bool.not_false] | rw [Bool.and_true] | rw [Bool.and_false])
          replace hT := hT.keep bN
          replace ha := ha.keep bN
          replace hb := hb.keep bN
          replace ht := ht.keep bN
          replace hs := hs.keep bN
          replace Ru := Ru.keep bN
          replace Rm := Rm.keep bN
          replace Rd := Rd.keep bN
          replace Ri := Ri.keep bN
          replace Rr := Rr.keep bN
          replace hall := hall.keep bN
          replace rx := rx.keep bN
          replace bR := below_trans bR bN
          clear bN
          go_wp2_with fail
          refine (holds_any _ _ ld x.t m _ Rd rx).mono ?_
          rintro e wd2 ⟨rfl, bN⟩
          rw [ED.out]
          repeat (first | rw [Bool.or_true] | rw [Bool.true_or] | rw [Bool.or_false] | rw [Bool.not_true] | rw [Bool.not_false] | rw [Bool.and_true] | rw [Bool.and_false])
          replace hT := hT.keep bN
          replace ha := ha.keep bN
          replace hb := hb.keep bN
          replace ht := ht.keep bN
          replace hs := hs.keep bN
          replace Ru := Ru.keep bN
          replace Rm := Rm.keep bN
          replace Rd := Rd.keep bN
          replace Ri := Ri.keep bN
          replace Rr := Rr.keep bN
          replace hall := hall.keep bN
          replace rx := rx.keep bN
          replace bR := below_trans bR bN
          clear bN
          go_wp2_with fail
          refine (holds_any _ _ li x.t m _ Ri rx).mono ?_
          rintro e wi2 ⟨rfl, bN⟩
          rw [EI.out]
          repeat (first | rw [Bool.or_true] | rw [Bool.true_or] | rw [Bool.or_false] | rw [Bool.not_true] | rw [Bool.not_false] | rw [Bool.and_true] | rw [Bool.and_false])
          replace hT := hT.keep bN
          replace ha := ha.keep bN
          replace hb := hb.keep bN
          replace ht := ht.keep bN
          replace hs := hs.keep bN
          replace Ru := Ru.keep bN
          replace Rm := Rm.keep bN
          replace Rd := Rd.keep bN
          replace Ri := Ri.keep bN
          replace Rr := Rr.keep bN
          replace hall := hall.keep bN
          replace rx := rx.keep bN
          replace bR := below_trans bR bN
          clear bN
          go_wp2_with fail
          refine (holds_any _ _ lr x.t m _ Rr rx).mono ?_
          rintro e wr2 ⟨rfl, bN⟩
          rw [ER.out]
          repeat (first | rw [Bool.or_true] | rw [Bool.true_or] | rw [Bool.or_false] | rw [Bool.not_true] | rw [Bool.not_false] | rw [Bool.and_true] | rw [Bool.and_false])
          replace hT := hT.keep bN
          replace ha := ha.keep bN
          replace hb := hb.keep bN
          replace ht := ht.keep bN
          replace hs := hs.keep bN
          replace Ru := Ru.keep bN
          replace Rm := Rm.keep bN
          replace Rd := Rd.keep bN
          replace Ri := Ri.keep bN
          replace Rr := Rr.keep bN
          replace hall := hall.keep bN
          replace rx := rx.keep bN
          replace bR := below_trans bR bN
          clear bN
          go_wp2
          go_roundg (L.length - (i + 1))
          case measure => omega
          case rel => exact ⟨i + 1, by go_num, hlt, Nat.le_refl _, bR⟩
    · have hltz : ¬ (i : Int) < (L.length : Int) := by omega
      go_wp2
      go_ret
      exact ⟨rfl, below_trans B1 bR⟩
end Go.Proofs.YtdibijhaiaiifaaDoor
