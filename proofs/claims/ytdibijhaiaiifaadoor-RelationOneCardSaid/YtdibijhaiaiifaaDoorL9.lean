/- The walk of the law RelationOne. -/
import Derived.Test.YtdibijhaiaiifaaDoorHb
import Derived.Test.YtdibijhaiaiifaaDoorFw
import Derived.Test.YtdibijhaiaiifaaDoorLo
import Derived.Test.YtdibijhaiaiifaaDoorVal
namespace Go.Proofs.YtdibijhaiaiifaaDoor
open Go.RowKit
theorem few_tuple {xs ys : List RR} {t : Tp} {s : List Sp} (h : fewL xs ys t s = true) : fewR xs = true ∧ fewR ys = true ∧ t.length ≤ 6 ∧ s.length ≤ 20 := by
  unfold fewL at h
  simp only [Bool.and_eq_true, decide_eq_true_eq] at h
  exact ⟨h.1.1.1, h.1.1.2, h.1.2, h.2⟩
theorem fresh_short (S : Nat → Bool) : (canon S).length ≤ 64 := Nat.le_trans (canon_le S) (by decide)
set_option maxHeartbeats 4000000 in
set_option maxRecDepth 1000000 in
theorem law9_any (va vt vs : Value) (xs : List RR) (t : Tp) (s : List Sp) (w : World) (hT : Tab w) (ha : IsRel w va xs) (ht : IsVals w vt t) (hs : IsSpans w vs s) : Calls Tryd.prog 9 #[va, vt, vs] w fun e w' => e = .returned (.bool true) ∧ Below w.heap.size w w' := by
  obtain ⟨pt, ct, rfl, -⟩ := id ht
  obtain ⟨ps, cs, rfl, -⟩ := id hs
  obtain ⟨pa, ca, rfl, hma⟩ := ha.shape
  go_enter Tryd.func9, Tryd.ntmps9
  go_wp2_with fail
  refine (head_any _ hT).mono ?_
  rintro e w1 ⟨rfl, B1⟩
  replace hT := hT.keep B1
  replace ha := ha.keep B1
  replace ht := ht.keep B1
  replace hs := hs.keep B1
  go_wp2_with fail
  refine (few_any _ _ _ _ xs [] t s _ ha (IsRel.nil _) ht hs).mono ?_
  rintro e w2 ⟨rfl, bN⟩
  replace hT := hT.keep bN
  replace ha := ha.keep bN
  replace ht := ht.keep bN
  replace hs := hs.keep bN
  replace B1 := below_trans B1 bN
  clear bN
  cases hf : fewL xs [] t s
  · clear hf
    go_wp2
    go_ret
    exact ⟨rfl, B1⟩
  obtain ⟨f1, -, f3, f4⟩ := few_tuple hf
  clear hf
  have HX := Lib.hid (fewR_sml f1)
  have H3 := Lib.hid f3
  have H4 := Lib.hid f4
  clear f1 f3 f4
  have bN := below_new w2 (.cells #[.slice pt t.length ct, .slice ps s.length cs] 44)
  have ho : IsRel (w2.alloc (.cells #[.slice pt t.length ct, .slice ps s.length cs] 44)) (.slice (some ⟨w2.heap.size, 0, none⟩) 1 1) [⟨pt, ct, t, ps, cs, s⟩] := ⟨IsRows.lit w2 [_] encsR (by simp), fun x hx => by rw [List.mem_singleton.1 hx]; exact RowOk.keep ⟨ht, hs⟩ bN⟩
  replace hT := hT.keep bN
  replace ha := ha.keep bN
  replace ht := ht.keep bN
  replace hs := hs.keep bN
  replace B1 := below_trans B1 bN
  clear bN
  go_wp2_with fail
  refine (InsertR_any _ _ _ xs t s _ hT ha ht hs (HX.out.mono (by decide)) (Nat.le_trans H3.out (by decide)) (Nat.le_trans H4.out (by decide))).mono ?_
  rintro e w3 ⟨ui, rfl, ns, Ri, On, bN⟩
  replace Ri := Ri.rel
  have HI := Lib.hid On
  have HIS := Lib.hid ((On.sml _ 1 HX.out (Sml.one (Nat.le_trans H3.out (by decide)) (Nat.le_trans H4.out (by decide)) (Nat.le_refl _))).mono (m := 10000) (by decide))
  clear On
  replace hT := hT.keep bN
  replace ha := ha.keep bN
  replace ht := ht.keep bN
  replace hs := hs.keep bN
  replace ho := ho.keep bN
  replace B1 := below_trans B1 bN
  clear bN
  go_wp2_with fail
  refine (RemoveR_any _ _ _ xs t s _ hT ha ht hs (HX.out.mono (by decide)) (Nat.le_trans H3.out (by decide)) (Nat.le_trans H4.out (by decide))).mono ?_
  rintro e w4 ⟨ur, rfl, rs, Rr, Or, bN⟩
  replace Rr := Rr.rel
  have HR := Lib.hid Or
  have HRS := Lib.hid ((Or.sml _ 1 HX.out (Sml.one (Nat.le_trans H3.out (by decide)) (Nat.le_trans H4.out (by decide)) (Nat.le_refl _))).mono (m := 10000) (by decide))
  clear Or
  replace hT := hT.keep bN
  replace ha := ha.keep bN
  replace ht := ht.keep bN
  replace hs := hs.keep bN
  replace ho := ho.keep bN
  replace Ri := Ri.keep bN
  replace B1 := below_trans B1 bN
  clear bN
  go_wp2_with fail
  refine (UnionR_any _ _ xs _ _ hT ha ho (HX.out.mono (by decide)) ⟨by simp, by simp; exact ⟨Nat.le_trans H3.out (by decide), Nat.le_trans H4.out (by decide)⟩⟩).mono ?_
  rintro e w5 ⟨uu, rfl, us, Ru, Ou, bN⟩
  replace Ru := Ru.rel
  have HE := Lib.hid (one_insert HI.out (Ou.congr rfl))
  clear Ou
  replace hT := hT.keep bN
  replace ha := ha.keep bN
  replace ht := ht.keep bN
  replace hs := hs.keep bN
  replace ho := ho.keep bN
  replace Ri := Ri.keep bN
  replace Rr := Rr.keep bN
  replace B1 := below_trans B1 bN
  clear bN
  go_wp2_with fail
  refine (rSameR_any _ _ ns us _ Ri Ru).mono ?_
  rintro e w6 ⟨rfl, bN⟩
  rw [decide_eq_true HE.out]
  replace hT := hT.keep bN
  replace ha := ha.keep bN
  replace ht := ht.keep bN
  replace hs := hs.keep bN
  replace ho := ho.keep bN
  replace Ri := Ri.keep bN
  replace Rr := Rr.keep bN
  replace B1 := below_trans B1 bN
  clear bN
  clear Ru HE
  go_wp2_with fail
  refine (MinusR_any _ _ xs _ _ hT ha ho (HX.out.mono (by decide)) ⟨by simp, by simp; exact ⟨Nat.le_trans H3.out (by decide), Nat.le_trans H4.out (by decide)⟩⟩).mono ?_
  rintro e w7 ⟨um, rfl, ms, Rm, Om, bN⟩
  replace Rm := Rm.rel
  have HE := Lib.hid (one_remove HR.out (Om.congr rfl))
  clear Om
  replace hT := hT.keep bN
  replace ha := ha.keep bN
  replace ht := ht.keep bN
  replace hs := hs.keep bN
  replace Ri := Ri.keep bN
  replace Rr := Rr.keep bN
  replace B1 := below_trans B1 bN
  clear bN
  clear ho
  go_wp2_with fail
  refine (rSameR_any _ _ rs ms _ Rr Rm).mono ?_
  rintro e w8 ⟨rfl, bN⟩
  rw [decide_eq_true HE.out]
  replace hT := hT.keep bN
  replace ha := ha.keep bN
  replace ht := ht.keep bN
  replace hs := hs.keep bN
  replace Ri := Ri.keep bN
  replace Rr := Rr.keep bN
  replace B1 := below_trans B1 bN
  clear bN
  clear Rm HE
  go_wp2
  go_loopg [11] xs.length (fun g vi wr => ∃ i : Nat, vi = .int .i64 i ∧ i ≤ xs.length ∧ xs.length - i ≤ g ∧ Below w8.heap.size w8 wr)
  case atStart => exact ⟨0, rfl, Nat.zero_le _, Nat.le_refl _, Below.refl _ _⟩
  case round =>
    obtain ⟨i, rfl, hi, hg, bR⟩ := hrel
    replace hT := hT.keep bR
    replace ha := ha.keep bR
    replace ht := ht.keep bR
    replace hs := hs.keep bR
    replace Ri := Ri.keep bR
    replace Rr := Rr.keep bR
    by_cases hlt : i < xs.length
    · have hltz : (i : Int) < (xs.length : Int) := by omega
      obtain ⟨x, hx⟩ := getElem_of_lt hlt
      obtain ⟨b1, o1, e, c0, c1, rx⟩ := ha.at_ hx
      cases e
      clear hx c1
      have rx := rx.1
      go_wp2_with fail
      refine (rCompareTuple_any _ _ x.t t _ rx ht).mono ?_
      rintro e wc ⟨rfl, hgw⟩
      have bN := hgw.below
      replace hT := hT.keep bN
      replace ha := ha.keep bN
      replace ht := ht.keep bN
      replace hs := hs.keep bN
      replace Ri := Ri.keep bN
      replace Rr := Rr.keep bN
      replace rx := rx.keep bN
      replace bR := below_trans bR bN
      clear bN
      clear hgw
      obtain ⟨z, hz⟩ : ∃ z, cmpT x.t t = z := ⟨_, rfl⟩
      rw [hz]
      by_cases h0 : z = 0
      · subst h0
        clear hz
        go_wp2
        go_roundg (xs.length - (i + 1))
        case measure => omega
        case rel => exact ⟨i + 1, by go_num, hlt, Nat.le_refl _, bR⟩
      · have HN := Lib.hid (show t ≠ x.t from fun e => h0 (by rw [← hz, e]; exact (cmpT_is.eq _ _).2 rfl))
        clear hz
        go_wp2_with fail
        refine (WhenR_any _ _ ns x.t _ hT Ri rx HIS.out).mono ?_
        rintro e wd ⟨ud, rfl, Sd, bN⟩
        replace Sd := Sd.1
        replace hT := hT.keep bN
        replace ha := ha.keep bN
        replace ht := ht.keep bN
        replace hs := hs.keep bN
        replace Ri := Ri.keep bN
        replace Rr := Rr.keep bN
        replace rx := rx.keep bN
        replace bR := below_trans bR bN
        clear bN
        go_wp2_with fail
        refine (WhenR_any _ _ xs x.t _ hT ha rx (HX.out.mono (by decide))).mono ?_
        rintro e we ⟨ue, rfl, Se, bN⟩
        replace Se := Se.1
        replace hT := hT.keep bN
        replace ha := ha.keep bN
        replace ht := ht.keep bN
        replace hs := hs.keep bN
        replace Ri := Ri.keep bN
        replace Rr := Rr.keep bN
        replace rx := rx.keep bN
        replace Sd := Sd.keep bN
        replace bR := below_trans bR bN
        clear bN
        go_wp2_with fail
        refine (Same_any _ _ _ _ _ Sd Se).mono ?_
        rintro e wf ⟨rfl, bN⟩
        rw [decide_eq_true (one_when_insert HI.out HN.out)]
        replace hT := hT.keep bN
        replace ha := ha.keep bN
        replace ht := ht.keep bN
        replace hs := hs.keep bN
        replace Ri := Ri.keep bN
        replace Rr := Rr.keep bN
        replace rx := rx.keep bN
        replace bR := below_trans bR bN
        clear bN
        clear Sd Se
        go_wp2_with fail
        refine (WhenR_any _ _ rs x.t _ hT Rr rx HRS.out).mono ?_
        rintro e wg ⟨ug, rfl, Sd, bN⟩
        replace Sd := Sd.1
        replace hT := hT.keep bN
        replace ha := ha.keep bN
        replace ht := ht.keep bN
        replace hs := hs.keep bN
        replace Ri := Ri.keep bN
        replace Rr := Rr.keep bN
        replace rx := rx.keep bN
        replace bR := below_trans bR bN
        clear bN
        go_wp2_with fail
        refine (WhenR_any _ _ xs x.t _ hT ha rx (HX.out.mono (by decide))).mono ?_
        rintro e wh ⟨uh, rfl, Se, bN⟩
        replace Se := Se.1
        replace hT := hT.keep bN
        replace ha := ha.keep bN
        replace ht := ht.keep bN
        replace hs := hs.keep bN
        replace Ri := Ri.keep bN
        replace Rr := Rr.keep bN
        replace rx := rx.keep bN
        replace Sd := Sd.keep bN
        replace bR := below_trans bR bN
        clear bN
        go_wp2_with fail
        refine (Same_any _ _ _ _ _ Sd Se).mono ?_
        rintro e wi ⟨rfl, bN⟩
        rw [decide_eq_true (one_when_remove HR.out HN.out)]
        replace hT := hT.keep bN
        replace ha := ha.keep bN
        replace ht := ht.keep bN
        replace hs := hs.keep bN
        replace Ri := Ri.keep bN
        replace Rr := Rr.keep bN
        replace rx := rx.keep bN
        replace bR := below_trans bR bN
        clear bN
        clear Sd Se
        go_wp2
        go_roundg (xs.length - (i + 1))
        case measure => omega
        case rel => exact ⟨i + 1, by go_num, hlt, Nat.le_refl _, bR⟩
    · have hltz : ¬ (i : Int) < (xs.length : Int) := by omega
      go_wp2_with fail
      refine (WhenR_any _ _ xs t _ hT ha ht (HX.out.mono (by decide))).mono ?_
      rintro e wd ⟨ud, rfl, Sd, bN⟩
      replace Sd := Sd.1
      replace hT := hT.keep bN
      replace ha := ha.keep bN
      replace ht := ht.keep bN
      replace hs := hs.keep bN
      replace Ri := Ri.keep bN
      replace Rr := Rr.keep bN
      replace bR := below_trans bR bN
      clear bN
      go_wp2_with fail
      refine (Minus_any _ _ s _ _ hT hs Sd).mono ?_
      rintro e we ⟨ue, rfl, Sf, bN⟩
      replace Sf := Sf.1
      replace hT := hT.keep bN
      replace ha := ha.keep bN
      replace ht := ht.keep bN
      replace hs := hs.keep bN
      replace Ri := Ri.keep bN
      replace Rr := Rr.keep bN
      replace bR := below_trans bR bN
      clear bN
      clear Sd
      go_wp2_with fail
      refine (RemoveR_any _ _ _ ns t _ _ hT Ri ht Sf HIS.out (Nat.le_trans H3.out (by decide)) (fresh_short _)).mono ?_
      rintro e wf ⟨uf, rfl, zs, Rz, Oz, bN⟩
      replace Rz := Rz.rel
      have HZ := Lib.hid Oz
      clear Oz
      replace hT := hT.keep bN
      replace ha := ha.keep bN
      replace ht := ht.keep bN
      replace hs := hs.keep bN
      replace Ri := Ri.keep bN
      replace Rr := Rr.keep bN
      replace bR := below_trans bR bN
      clear bN
      clear Sf
      go_wp2_with fail
      refine (UnionR_any _ _ xs [] _ hT ha (IsRel.nil _) (HX.out.mono (by decide)) (Sml.nil _)).mono ?_
      rintro e wg ⟨ug, rfl, vs, Rv, Ov, bN⟩
      replace Rv := Rv.rel
      have HE := Lib.hid (one_back HI.out HZ.out Ov)
      clear Ov HZ
      replace hT := hT.keep bN
      replace ha := ha.keep bN
      replace ht := ht.keep bN
      replace hs := hs.keep bN
      replace Ri := Ri.keep bN
      replace Rr := Rr.keep bN
      replace Rz := Rz.keep bN
      replace bR := below_trans bR bN
      clear bN
      go_wp2_with fail
      refine (rSameR_any _ _ zs vs _ Rz Rv).mono ?_
      rintro e wh ⟨rfl, bN⟩
      rw [decide_eq_true HE.out]
      replace hT := hT.keep bN
      replace ha := ha.keep bN
      replace ht := ht.keep bN
      replace hs := hs.keep bN
      replace Ri := Ri.keep bN
      replace Rr := Rr.keep bN
      replace bR := below_trans bR bN
      clear bN
      clear Rz Rv HE
      go_wp2_with fail
      refine (WhenR_any _ _ ns t _ hT Ri ht HIS.out).mono ?_
      rintro e wi ⟨ui2, rfl, Sd, bN⟩
      replace Sd := Sd.1
      replace hT := hT.keep bN
      replace ha := ha.keep bN
      replace ht := ht.keep bN
      replace hs := hs.keep bN
      replace Ri := Ri.keep bN
      replace Rr := Rr.keep bN
      replace bR := below_trans bR bN
      clear bN
      go_wp2_with fail
      refine (WhenR_any _ _ xs t _ hT ha ht (HX.out.mono (by decide))).mono ?_
      rintro e wj ⟨uj, rfl, Se, bN⟩
      replace Se := Se.1
      replace hT := hT.keep bN
      replace ha := ha.keep bN
      replace ht := ht.keep bN
      replace hs := hs.keep bN
      replace Ri := Ri.keep bN
      replace Rr := Rr.keep bN
      replace Sd := Sd.keep bN
      replace bR := below_trans bR bN
      clear bN
      go_wp2_with fail
      refine (Union_any _ _ _ s _ hT Se hs).mono ?_
      rintro e wk ⟨uk, rfl, Sf, bN⟩
      replace Sf := Sf.1
      replace hT := hT.keep bN
      replace ha := ha.keep bN
      replace ht := ht.keep bN
      replace hs := hs.keep bN
      replace Ri := Ri.keep bN
      replace Rr := Rr.keep bN
      replace Sd := Sd.keep bN
      replace bR := below_trans bR bN
      clear bN
      clear Se
      go_wp2_with fail
      refine (Same_any _ _ _ _ _ Sd Sf).mono ?_
      rintro e wl ⟨rfl, bN⟩
      rw [decide_eq_true (one_when HI.out)]
      replace hT := hT.keep bN
      replace ha := ha.keep bN
      replace ht := ht.keep bN
      replace hs := hs.keep bN
      replace Ri := Ri.keep bN
      replace Rr := Rr.keep bN
      replace bR := below_trans bR bN
      clear bN
      clear Sd Sf
      go_wp2
      go_ret
      exact ⟨rfl, below_trans B1 bR⟩
end Go.Proofs.YtdibijhaiaiifaaDoor
