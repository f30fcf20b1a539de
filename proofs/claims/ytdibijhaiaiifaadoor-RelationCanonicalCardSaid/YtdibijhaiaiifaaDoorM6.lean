/- The walk of the law RelationCanonical. -/
import Derived.Test.YtdibijhaiaiifaaDoorJ5
import Derived.Test.YtdibijhaiaiifaaDoorJ6
namespace Go.Proofs.YtdibijhaiaiifaaDoor
open Go.RowKit
theorem Hold.offs {w w' : World} {m : List RR} {v : Value} {out : List RR} {wr : World} {base : Nat} (H : Hold 2 44 encR RowOk noB wr base v out) (hr : ∀ r ∈ m, RowOk w r) (hb : Below w.heap.size w w') (hw : base = w.heap.size) : ∀ u ∈ m, Off RowOk w' (Ex v noB) u := fun u hu => by
  refine Off.old (w := w) (fun a b => rowOk_keep a b _) (hr u hu) hb fun k hk => ?_
  rcases hk with hk | hk
  · rw [← hw]; exact (H.1.lt k hk).1
  · exact hk.elim
set_option maxHeartbeats 8000000 in
set_option maxRecDepth 1000000 in
theorem law6_any (va vb vt vs vm : Value) (xs ys : List RR) (t : Tp) (s : List Sp) (ts : List Tm) (w : World) (hT : Tab w) (ha : IsRel w va xs) (hb : IsRel w vb ys) (ht : IsVals w vt t) (hs : IsSpans w vs s) (hm : IsTerms w vm ts) : Calls Tryd.prog 6 #[va, vb, vt, vs, vm] w fun e w' => e = .returned (.bool true) ∧ Below w.heap.size w w' := by
  obtain ⟨pa, ca, rfl, hma⟩ := ha.shape
  obtain ⟨pt, ct, rfl, -⟩ := id ht
  obtain ⟨ps, cs, rfl, -⟩ := id hs
  obtain ⟨pm, cm, rfl, -⟩ := hm.shape
  go_enter Tryd.func6, Tryd.ntmps6
  go_wp2_with fail
  refine (head_any _ hT).mono ?_
  rintro e w1 ⟨rfl, B1⟩
  replace hT := hT.keep B1
  replace ha := ha.keep B1
  replace hb := hb.keep B1
  replace ht := ht.keep B1
  replace hs := hs.keep B1
  replace hm := hm.keep B1
  go_wp2_with fail
  refine (few_any _ _ _ _ xs ys t s _ ha hb ht hs).mono ?_
  rintro e w2 ⟨rfl, bN⟩
  replace hT := hT.keep bN
  replace ha := ha.keep bN
  replace hb := hb.keep bN
  replace ht := ht.keep bN
  replace hs := hs.keep bN
  replace hm := hm.keep bN
  replace B1 := below_trans B1 bN
  clear bN
  cases hf : fewL xs ys t s
  · clear hf
    go_wp2
    go_ret
    exact ⟨rfl, B1⟩
  obtain ⟨f1, f2, f3, f4⟩ := few_tuple hf
  clear hf
  have HX := Lib.hid (fewR_sml f1)
  have HY := Lib.hid (fewR_sml f2)
  have H3 := Lib.hid f3
  have H4 := Lib.hid f4
  clear f1 f2 f3 f4
  by_cases hl : 6 < ts.length
  · have hlz : (6 : Int) < (ts.length : Int) := by omega
    go_wp2
    go_ret
    exact ⟨rfl, B1⟩
  have hlz : ¬ (6 : Int) < (ts.length : Int) := by omega
  clear hl
  have hxl : xs.length ≤ 40 := HX.out.len
  go_wp2
  go_loopg [12, 13] xs.length (fun g v12 vi wr => ∃ (i : Nat) (L : List RR), vi = .int .i64 ((i : Int) - 1) ∧ i ≤ xs.length ∧ i ≤ g ∧ Hid (Echo xs L) ∧ Hid (L.length = 2 * (xs.length - i)) ∧ Hold 2 44 encR RowOk noB wr w2.heap.size v12 L ∧ Below w2.heap.size w2 wr)
  case atStart => exact ⟨xs.length, [], by go_num, Nat.le_refl _, Nat.le_refl _, Lib.hid (Echo.nil _), Lib.hid (by simp), Hold.nil _ _, Below.refl _ _⟩
  case round =>
    obtain ⟨i, L, rfl, hi, hg, V, VL, H12, B⟩ := hrel
    obtain ⟨p12, c12, rfl⟩ := H12.form
    have hLl : L.length ≤ 80 := by have := VL.out; omega
    by_cases hlt : 0 < i
    · obtain ⟨j, rfl⟩ : ∃ j, i = j + 1 := ⟨i - 1, by omega⟩
      have hjz : ((j + 1 : Nat) : Int) - 1 = (j : Int) := by omega
      rw [hjz]
      have hj0 : (0 : Int) ≤ (j : Int) := by omega
      have hjx : (j : Int) < (xs.length : Int) := by omega
      obtain ⟨x, hx⟩ := getElem_of_lt (l := xs) (i := j) (by omega)
      obtain ⟨b, off, e, c0, c1, rx⟩ := (ha.keep B).at_ hx
      cases e
      have rx0 := ha.2 x (List.mem_of_getElem? hx)
      have HX2 := Lib.hid (List.mem_of_getElem? hx)
      clear hx
      have hmo0 : ∀ W, Below wr.heap.size wr W → ∀ u ∈ [x, (⟨x.pa, x.ca, x.t, none, 0, []⟩ : RR)], Off RowOk W (Ex (.slice p12 L.length c12) noB) u := fun W hW => Hold.offs (w := w2) H12 (fun r hr => by
        rcases List.mem_cons.1 hr with rfl | hr
        · exact rx0
        · rw [List.mem_singleton.1 hr]; exact ⟨rx0.1, IsSpans.nil _⟩) (B.trans (hW.mono B.size)) rfl
      have bX := below_new wr (.cells #[x.av, x.wv, x.av, .slice none 0 0] 44)
      have hm0 : IsRows 2 encR (wr.alloc (.cells #[x.av, x.wv, x.av, .slice none 0 0] 44)) (.slice (some ⟨wr.heap.size, 0, none⟩) 2 2) [x, (⟨x.pa, x.ca, x.t, none, 0, []⟩ : RR)] := IsRows.lit wr [x, (⟨x.pa, x.ca, x.t, none, 0, []⟩ : RR)] encsR (by simp)
      have VN := Lib.hid (Echo.two V.out HX2.out (p := x) (q := (⟨x.pa, x.ca, x.t, none, 0, []⟩ : RR)) ⟨rfl, .inl rfl⟩ ⟨rfl, .inr rfl⟩)
      have VM := Lib.hid (show (L ++ [x, (⟨x.pa, x.ca, x.t, none, 0, []⟩ : RR)]).length = 2 * (xs.length - j) by rw [List.length_append, VL.out]; simp; omega)
      go_wp2
      go_region_law (refine step_hold (wr := wr) fitsR24 encsR (by rfl) (.tmp 36) (.tmp 47) (by rfl) (by rfl) (by rfl) H12 (by first | exact bX | exact bX.drew | exact bX.drew.drew) (by exact hm0) (hmo0 _ (by first | exact bX | exact bX.drew | exact bX.drew.drew)) B.size (by omega) (by simp) ?_; intro p9 c9 w9 H9 B9 hG9; rw [List.length_append] at H9)
      all_goals
        go_wp2
        go_roundg j
        case measure => omega
        case rel => exact ⟨j, _, by go_num, by omega, Nat.le_refl _, VN, VM, H9, B.trans B9⟩
    · obtain rfl : i = 0 := by omega
      have hz : ((0 : Nat) : Int) - 1 = -1 := by omega
      rw [hz]
      have EM := Lib.hid (fun t k => V.out.moms t k)
      have ES := Lib.hid (V.out.sml (by have := VL.out; omega) HX.out)
      have hmo := Hold.offs (w := w2) H12 (fun r hr => ha.2 r hr) B rfl
      have haR := (ha.keep B).1
      go_wp2_with (at_builtin; refine wpList_hold fitsR24 encsR rfl _ _ rfl rfl rfl H12 (Below.refl _ _) haR hmo B.size (by omega) (by omega) ?_; intro p9 c9 w9 H9 B9 hG9)
      have RC := H9.rel (by rw [List.length_append]; omega)
      replace B := B.trans B9
      replace B1 := below_trans B1 B
      rw [show (L ++ xs).length = L.length + xs.length from List.length_append] at RC
      obtain ⟨cs, hcs⟩ : ∃ cs, L ++ xs = cs := ⟨_, rfl⟩
      rw [hcs] at RC EM ES
      clear hcs H12 H9 B9 hG9 haR hmo hz V VL
      replace hT := hT.keep B
      replace ha := ha.keep B
      replace hb := hb.keep B
      replace ht := ht.keep B
      replace hs := hs.keep B
      replace hm := hm.keep B
      go_wp2_with fail
      refine (UnionR_any _ _ xs [] _ hT ha (IsRel.nil _) (HX.out.mono (by decide)) (Sml.nil _)).mono ?_
      rintro e wo ⟨uo, rfl, lo, Ro, Oo, bN⟩
      replace Ro := Ro.rel
      have Ho := Lib.hid Oo
      clear Oo
      replace hT := hT.keep bN
      replace ha := ha.keep bN
      replace hb := hb.keep bN
      replace ht := ht.keep bN
      replace hs := hs.keep bN
      replace hm := hm.keep bN
      replace RC := RC.keep bN
      replace B1 := below_trans B1 bN
      clear bN
      go_wp2_with fail
      refine (canonical_r _ lo _ hT Ro).mono ?_
      rintro e wc ⟨q, rfl, hq, bN⟩
      obtain rfl : q = true := hq.2 Ho.out.can
      clear hq
      replace hT := hT.keep bN
      replace ha := ha.keep bN
      replace hb := hb.keep bN
      replace ht := ht.keep bN
      replace hs := hs.keep bN
      replace hm := hm.keep bN
      replace RC := RC.keep bN
      replace Ro := Ro.keep bN
      replace B1 := below_trans B1 bN
      clear bN
      go_wp2_with fail
      refine (UnionR_any _ _ xs ys _ hT ha hb (HX.out.mono (by decide)) (HY.out.mono (by decide))).mono ?_
      rintro e wu ⟨uu, rfl, lu, Ru, Ou, bN⟩
      replace Ru := Ru.rel
      have Hu := Lib.hid Ou
      clear Ou
      replace hT := hT.keep bN
      replace ha := ha.keep bN
      replace hb := hb.keep bN
      replace ht := ht.keep bN
      replace hs := hs.keep bN
      replace hm := hm.keep bN
      replace RC := RC.keep bN
      replace Ro := Ro.keep bN
      replace B1 := below_trans B1 bN
      clear bN
      go_wp2_with fail
      refine (canonical_r _ lu _ hT Ru).mono ?_
      rintro e wc ⟨q, rfl, hq, bN⟩
      obtain rfl : q = true := hq.2 Hu.out.can
      clear hq
      replace hT := hT.keep bN
      replace ha := ha.keep bN
      replace hb := hb.keep bN
      replace ht := ht.keep bN
      replace hs := hs.keep bN
      replace hm := hm.keep bN
      replace RC := RC.keep bN
      replace Ro := Ro.keep bN
      replace B1 := below_trans B1 bN
      clear bN
      clear Ru
      go_wp2_with fail
      refine (MeetR_any _ _ xs ys _ hT ha hb (HX.out.mono (by decide)) (HY.out.mono (by decide))).mono ?_
      rintro e wm ⟨um, rfl, lm, Rm, Om, bN⟩
      replace Rm := Rm.rel
      have Hm := Lib.hid Om
      clear Om
      replace hT := hT.keep bN
      replace ha := ha.keep bN
      replace hb := hb.keep bN
      replace ht := ht.keep bN
      replace hs := hs.keep bN
      replace hm := hm.keep bN
      replace RC := RC.keep bN
      replace Ro := Ro.keep bN
      replace B1 := below_trans B1 bN
      clear bN
      go_wp2_with fail
      refine (canonical_r _ lm _ hT Rm).mono ?_
      rintro e wc ⟨q, rfl, hq, bN⟩
      obtain rfl : q = true := hq.2 Hm.out.can
      clear hq
      replace hT := hT.keep bN
      replace ha := ha.keep bN
      replace hb := hb.keep bN
      replace ht := ht.keep bN
      replace hs := hs.keep bN
      replace hm := hm.keep bN
      replace RC := RC.keep bN
      replace Ro := Ro.keep bN
      replace B1 := below_trans B1 bN
      clear bN
      clear Rm
      go_wp2_with fail
      refine (MinusR_any _ _ xs ys _ hT ha hb (HX.out.mono (by decide)) (HY.out.mono (by decide))).mono ?_
      rintro e wd ⟨ud, rfl, ld, Rd, Od, bN⟩
      replace Rd := Rd.rel
      have Hd := Lib.hid Od
      clear Od
      replace hT := hT.keep bN
      replace ha := ha.keep bN
      replace hb := hb.keep bN
      replace ht := ht.keep bN
      replace hs := hs.keep bN
      replace hm := hm.keep bN
      replace RC := RC.keep bN
      replace Ro := Ro.keep bN
      replace B1 := below_trans B1 bN
      clear bN
      go_wp2_with fail
      refine (canonical_r _ ld _ hT Rd).mono ?_
      rintro e wc ⟨q, rfl, hq, bN⟩
      obtain rfl : q = true := hq.2 Hd.out.can
      clear hq
      replace hT := hT.keep bN
      replace ha := ha.keep bN
      replace hb := hb.keep bN
      replace ht := ht.keep bN
      replace hs := hs.keep bN
      replace hm := hm.keep bN
      replace RC := RC.keep bN
      replace Ro := Ro.keep bN
      replace B1 := below_trans B1 bN
      clear bN
      clear Rd
      go_wp2_with fail
      refine (InsertR_any _ _ _ xs t s _ hT ha ht hs (HX.out.mono (by decide)) (Nat.le_trans H3.out (by decide)) (Nat.le_trans H4.out (by decide))).mono ?_
      rintro e wi ⟨ui, rfl, li, Ri, Oi, bN⟩
      replace Ri := Ri.rel
      have Hi := Lib.hid Oi
      clear Oi
      replace hT := hT.keep bN
      replace ha := ha.keep bN
      replace hb := hb.keep bN
      replace ht := ht.keep bN
      replace hs := hs.keep bN
      replace hm := hm.keep bN
      replace RC := RC.keep bN
      replace Ro := Ro.keep bN
      replace B1 := below_trans B1 bN
      clear bN
      go_wp2_with fail
      refine (canonical_r _ li _ hT Ri).mono ?_
      rintro e wc ⟨q, rfl, hq, bN⟩
      obtain rfl : q = true := hq.2 Hi.out.can
      clear hq
      replace hT := hT.keep bN
      replace ha := ha.keep bN
      replace hb := hb.keep bN
      replace ht := ht.keep bN
      replace hs := hs.keep bN
      replace hm := hm.keep bN
      replace RC := RC.keep bN
      replace Ro := Ro.keep bN
      replace B1 := below_trans B1 bN
      clear bN
      clear Ri
      go_wp2_with fail
      refine (RemoveR_any _ _ _ xs t s _ hT ha ht hs (HX.out.mono (by decide)) (Nat.le_trans H3.out (by decide)) (Nat.le_trans H4.out (by decide))).mono ?_
      rintro e wr ⟨ur, rfl, lr, Rr, Or, bN⟩
      replace Rr := Rr.rel
      have Hr := Lib.hid Or
      clear Or
      replace hT := hT.keep bN
      replace ha := ha.keep bN
      replace hb := hb.keep bN
      replace ht := ht.keep bN
      replace hs := hs.keep bN
      replace hm := hm.keep bN
      replace RC := RC.keep bN
      replace Ro := Ro.keep bN
      replace B1 := below_trans B1 bN
      clear bN
      go_wp2_with fail
      refine (canonical_r _ lr _ hT Rr).mono ?_
      rintro e wc ⟨q, rfl, hq, bN⟩
      obtain rfl : q = true := hq.2 Hr.out.can
      clear hq
      replace hT := hT.keep bN
      replace ha := ha.keep bN
      replace hb := hb.keep bN
      replace ht := ht.keep bN
      replace hs := hs.keep bN
      replace hm := hm.keep bN
      replace RC := RC.keep bN
      replace Ro := Ro.keep bN
      replace B1 := below_trans B1 bN
      clear bN
      clear Rr
      go_wp2_with fail
      refine (SelectR_any _ _ xs ts _ hT ha hm (HX.out.mono (by decide))).mono ?_
      rintro e wz ⟨uz, rfl, lz, Rz, Oz, bN⟩
      replace Rz := Rz.rel
      have Hz := Lib.hid Oz
      clear Oz
      replace hT := hT.keep bN
      replace ha := ha.keep bN
      replace hb := hb.keep bN
      replace ht := ht.keep bN
      replace hs := hs.keep bN
      replace hm := hm.keep bN
      replace RC := RC.keep bN
      replace Ro := Ro.keep bN
      replace B1 := below_trans B1 bN
      clear bN
      go_wp2_with fail
      refine (canonical_r _ lz _ hT Rz).mono ?_
      rintro e wc ⟨q, rfl, hq, bN⟩
      obtain rfl : q = true := hq.2 Hz.out.can
      clear hq
      replace hT := hT.keep bN
      replace ha := ha.keep bN
      replace hb := hb.keep bN
      replace ht := ht.keep bN
      replace hs := hs.keep bN
      replace hm := hm.keep bN
      replace RC := RC.keep bN
      replace Ro := Ro.keep bN
      replace B1 := below_trans B1 bN
      clear bN
      clear Rz
      go_wp2_with fail
      refine (canonical_r _ xs _ hT ha).mono ?_
      rintro e wc ⟨q, rfl, hq, bN⟩
      have HQ := Lib.hid hq
      clear hq
      replace hT := hT.keep bN
      replace ha := ha.keep bN
      replace hb := hb.keep bN
      replace ht := ht.keep bN
      replace hs := hs.keep bN
      replace hm := hm.keep bN
      replace RC := RC.keep bN
      replace Ro := Ro.keep bN
      replace B1 := below_trans B1 bN
      clear bN
      go_wp2_with fail
      refine (rSameR_any _ _ xs lo _ ha Ro).mono ?_
      rintro e ws ⟨rfl, bN⟩
      rw [← can_iff Ho.out HQ.out]
      have hqq : (q == q) = true := by cases q <;> rfl
      replace hT := hT.keep bN
      replace ha := ha.keep bN
      replace hb := hb.keep bN
      replace ht := ht.keep bN
      replace hs := hs.keep bN
      replace hm := hm.keep bN
      replace RC := RC.keep bN
      replace Ro := Ro.keep bN
      replace B1 := below_trans B1 bN
      clear bN
      go_wp2_with fail
      refine (UnionR_any _ _ cs [] _ hT RC (IsRel.nil _) (ES.out.mono (by decide)) (Sml.nil _)).mono ?_
      rintro e wa ⟨ua, rfl, la, Ra, Oa, bN⟩
      replace Ra := Ra.rel
      have Ha := Lib.hid Oa
      clear Oa
      replace hT := hT.keep bN
      replace ha := ha.keep bN
      replace hb := hb.keep bN
      replace ht := ht.keep bN
      replace hs := hs.keep bN
      replace hm := hm.keep bN
      replace RC := RC.keep bN
      replace Ro := Ro.keep bN
      replace B1 := below_trans B1 bN
      clear bN
      go_wp2_with fail
      refine (rSameR_any _ _ la lo _ Ra Ro).mono ?_
      rintro e ws ⟨rfl, bN⟩
      rw [decide_eq_true (op_left EM.out Ha.out Ho.out)]
      replace hT := hT.keep bN
      replace ha := ha.keep bN
      replace hb := hb.keep bN
      replace ht := ht.keep bN
      replace hs := hs.keep bN
      replace hm := hm.keep bN
      replace RC := RC.keep bN
      replace Ro := Ro.keep bN
      replace B1 := below_trans B1 bN
      clear bN
      clear Ra
      go_wp2_with fail
      refine (UnionR_any _ _ ys cs _ hT hb RC (HY.out.mono (by decide)) (ES.out.mono (by decide))).mono ?_
      rintro e wb ⟨ub, rfl, lb, Rb, Ob, bN⟩
      replace Rb := Rb.rel
      have Hb := Lib.hid Ob
      clear Ob
      replace hT := hT.keep bN
      replace ha := ha.keep bN
      replace hb := hb.keep bN
      replace ht := ht.keep bN
      replace hs := hs.keep bN
      replace hm := hm.keep bN
      replace RC := RC.keep bN
      replace Ro := Ro.keep bN
      replace B1 := below_trans B1 bN
      clear bN
      go_wp2_with fail
      refine (UnionR_any _ _ ys xs _ hT hb ha (HY.out.mono (by decide)) (HX.out.mono (by decide))).mono ?_
      rintro e wc ⟨uc, rfl, lc, Rc, Oc, bN⟩
      replace Rc := Rc.rel
      have Hc := Lib.hid Oc
      clear Oc
      replace hT := hT.keep bN
      replace ha := ha.keep bN
      replace hb := hb.keep bN
      replace ht := ht.keep bN
      replace hs := hs.keep bN
      replace hm := hm.keep bN
      replace RC := RC.keep bN
      replace Ro := Ro.keep bN
      replace Rb := Rb.keep bN
      replace B1 := below_trans B1 bN
      clear bN
      go_wp2_with fail
      refine (rSameR_any _ _ lb lc _ Rb Rc).mono ?_
      rintro e ws ⟨rfl, bN⟩
      rw [decide_eq_true (op_right EM.out Hb.out Hc.out)]
      replace hT := hT.keep bN
      replace ha := ha.keep bN
      replace hb := hb.keep bN
      replace ht := ht.keep bN
      replace hs := hs.keep bN
      replace hm := hm.keep bN
      replace RC := RC.keep bN
      replace Ro := Ro.keep bN
      replace B1 := below_trans B1 bN
      clear bN
      clear Rb Rc
      go_wp2_with fail
      refine (MinusR_any _ _ ys cs _ hT hb RC (HY.out.mono (by decide)) (ES.out.mono (by decide))).mono ?_
      rintro e we ⟨ue, rfl, le, Re, Oe, bN⟩
      replace Re := Re.rel
      have He := Lib.hid Oe
      clear Oe
      replace hT := hT.keep bN
      replace ha := ha.keep bN
      replace hb := hb.keep bN
      replace ht := ht.keep bN
      replace hs := hs.keep bN
      replace hm := hm.keep bN
      replace RC := RC.keep bN
      replace Ro := Ro.keep bN
      replace B1 := below_trans B1 bN
      clear bN
      go_wp2_with fail
      refine (MinusR_any _ _ ys xs _ hT hb ha (HY.out.mono (by decide)) (HX.out.mono (by decide))).mono ?_
      rintro e wf ⟨uf, rfl, lf, Rf, Of, bN⟩
      replace Rf := Rf.rel
      have Hf := Lib.hid Of
      clear Of
      replace hT := hT.keep bN
      replace ha := ha.keep bN
      replace hb := hb.keep bN
      replace ht := ht.keep bN
      replace hs := hs.keep bN
      replace hm := hm.keep bN
      replace RC := RC.keep bN
      replace Ro := Ro.keep bN
      replace Re := Re.keep bN
      replace B1 := below_trans B1 bN
      clear bN
      go_wp2_with fail
      refine (rSameR_any _ _ le lf _ Re Rf).mono ?_
      rintro e ws ⟨rfl, bN⟩
      rw [decide_eq_true (op_right EM.out He.out Hf.out)]
      replace hT := hT.keep bN
      replace ha := ha.keep bN
      replace hb := hb.keep bN
      replace ht := ht.keep bN
      replace hs := hs.keep bN
      replace hm := hm.keep bN
      replace RC := RC.keep bN
      replace Ro := Ro.keep bN
      replace B1 := below_trans B1 bN
      clear bN
      clear Re Rf
      go_wp2_with fail
      refine (MeetR_any _ _ cs ys _ hT RC hb (ES.out.mono (by decide)) (HY.out.mono (by decide))).mono ?_
      rintro e wg ⟨ug, rfl, lg, Rg, Og, bN⟩
      replace Rg := Rg.rel
      have Hg := Lib.hid Og
      clear Og
      replace hT := hT.keep bN
      replace ha := ha.keep bN
      replace hb := hb.keep bN
      replace ht := ht.keep bN
      replace hs := hs.keep bN
      replace hm := hm.keep bN
      replace RC := RC.keep bN
      replace Ro := Ro.keep bN
      replace B1 := below_trans B1 bN
      clear bN
      go_wp2_with fail
      refine (MeetR_any _ _ xs ys _ hT ha hb (HX.out.mono (by decide)) (HY.out.mono (by decide))).mono ?_
      rintro e wh ⟨uh, rfl, lh, Rh, Oh, bN⟩
      replace Rh := Rh.rel
      have Hh := Lib.hid Oh
      clear Oh
      replace hT := hT.keep bN
      replace ha := ha.keep bN
      replace hb := hb.keep bN
      replace ht := ht.keep bN
      replace hs := hs.keep bN
      replace hm := hm.keep bN
      replace RC := RC.keep bN
      replace Ro := Ro.keep bN
      replace Rg := Rg.keep bN
      replace B1 := below_trans B1 bN
      clear bN
      go_wp2_with fail
      refine (rSameR_any _ _ lg lh _ Rg Rh).mono ?_
      rintro e ws ⟨rfl, bN⟩
      rw [decide_eq_true (op_left EM.out Hg.out Hh.out)]
      replace hT := hT.keep bN
      replace ha := ha.keep bN
      replace hb := hb.keep bN
      replace ht := ht.keep bN
      replace hs := hs.keep bN
      replace hm := hm.keep bN
      replace RC := RC.keep bN
      replace Ro := Ro.keep bN
      replace B1 := below_trans B1 bN
      clear bN
      clear Rg Rh
      go_wp2_with fail
      refine (SelectR_any _ _ cs ts _ hT RC hm (ES.out.mono (by decide))).mono ?_
      rintro e wj ⟨uj, rfl, lj, Rj, Oj, bN⟩
      replace Rj := Rj.rel
      have Hj := Lib.hid Oj
      clear Oj
      replace hT := hT.keep bN
      replace ha := ha.keep bN
      replace hb := hb.keep bN
      replace ht := ht.keep bN
      replace hs := hs.keep bN
      replace hm := hm.keep bN
      replace RC := RC.keep bN
      replace Ro := Ro.keep bN
      replace B1 := below_trans B1 bN
      clear bN
      go_wp2_with fail
      refine (SelectR_any _ _ xs ts _ hT ha hm (HX.out.mono (by decide))).mono ?_
      rintro e wk ⟨uk, rfl, lk, Rk, Ok, bN⟩
      replace Rk := Rk.rel
      have Hk := Lib.hid Ok
      clear Ok
      replace hT := hT.keep bN
      replace ha := ha.keep bN
      replace hb := hb.keep bN
      replace ht := ht.keep bN
      replace hs := hs.keep bN
      replace hm := hm.keep bN
      replace RC := RC.keep bN
      replace Ro := Ro.keep bN
      replace Rj := Rj.keep bN
      replace B1 := below_trans B1 bN
      clear bN
      go_wp2_with fail
      refine (rSameR_any _ _ lj lk _ Rj Rk).mono ?_
      rintro e ws ⟨rfl, bN⟩
      rw [decide_eq_true (sel_of (P := matchL ts) EM.out Hj.out Hk.out)]
      replace hT := hT.keep bN
      replace ha := ha.keep bN
      replace hb := hb.keep bN
      replace ht := ht.keep bN
      replace hs := hs.keep bN
      replace hm := hm.keep bN
      replace RC := RC.keep bN
      replace Ro := Ro.keep bN
      replace B1 := below_trans B1 bN
      clear bN
      clear Rj Rk
      go_wp2
      go_ret
      exact ⟨rfl, B1⟩
end Go.Proofs.YtdibijhaiaiifaaDoor
