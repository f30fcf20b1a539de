/- The walk of the law RelationMoments. -/
import Derived.Test.YtdibijhaiaiifaaDoorJ6
namespace Go.Proofs.YtdibijhaiaiifaaDoor
open Go.RowKit
theorem at_len {xs : List RR} {m : Int} {l : List Tp} (h : AtOf xs m l) {n : Nat} (hs : Sml n xs) {t : Tp} (ht : t ∈ l) : t.length ≤ 64 := by
  obtain ⟨ys, hy, rfl⟩ := h
  obtain ⟨y, hm, rfl⟩ := List.mem_map.1 ht
  exact ((hy.sml n hs).each y (List.mem_filter.1 hm).1).1
theorem One_ts {m : Int} {w0 w : World} {Q : Ending → World → Prop} (hm : 0 ≤ m ∧ m < 100) (hb : Below w0.heap.size w0 w)
    (k : ∀ g w', IsSpans w' (.slice (some ⟨g, 0, none⟩) 1 1) [(m, m + 1)] → w0.heap.size ≤ g → Below w0.heap.size w0 w' → Q (.returned (.slice (some ⟨g, 0, none⟩) 1 1)) w') : Calls Tryd.prog 47 #[.int .i64 m] w Q :=
  (One_any m hm w).mono fun e w' ⟨he, hw⟩ => by
    subst he hw
    exact k _ _ (IsSpans.of_rows (IsRows.lit (e := 86) w [(m, m + 1)] encsS (by simp))) hb.size (below_alloc' hb)
abbrev IsTx (u : Value) (ts : List TT) : World → Unit → Prop := fun w _ => IsTups w u ts
theorem tups_nil {l : List TT} (h : tups l = []) : l = [] := by unfold tups at h; simpa using h
theorem isTx_keep (u : Value) (ts : List TT) : ∀ w w' : World, Below w.heap.size w w' → IsTx u ts w () → IsTx u ts w' () := fun _ _ h k => IsTups.keep k h
theorem row_off {w w0 : World} {x : TT} {g : Nat} {s : List Sp} {X : Nat → Prop} (h : Off TupOk w X x) (hs : IsSpans w (.slice (some ⟨g, 0, none⟩) s.length s.length) s) (hg : w0.heap.size ≤ g) (hX : ∀ k, X k → k < w0.heap.size) : Off RowOk w X ⟨x.p, x.c, x.t, some ⟨g, 0, none⟩, s.length, s⟩ := fun w' hw =>
  ⟨h w' hw, hs.agree hw fun b hb e => by
    have := hX b e
    have hb' : g = b := by simpa [Value.ownBlock] using hb
    omega⟩
set_option maxHeartbeats 16000000 in
set_option maxRecDepth 1000000 in
theorem law7_any (va vb vm : Value) (xs ys : List RR) (ts : List Tm) (w : World) (hT : Tab w) (ha : IsRel w va xs) (hb : IsRel w vb ys) (hm : IsTerms w vm ts) : Calls Tryd.prog 7 #[va, vb, vm] w fun e w' => e = .returned (.bool true) ∧ Below w.heap.size w w' := by
  obtain ⟨pm, cm, rfl, -⟩ := hm.shape
  go_enter Tryd.func7, Tryd.ntmps7
  go_wp2_with fail
  refine (head_any _ hT).mono ?_
  rintro e w1 ⟨rfl, B1⟩
  replace hT := hT.keep B1
  replace ha := ha.keep B1
  replace hb := hb.keep B1
  replace hm := hm.keep B1
  go_wp2_with fail
  refine (fewR_any _ xs _ ha).mono ?_
  rintro e w2 ⟨rfl, bN⟩
  replace hT := hT.keep bN
  replace ha := ha.keep bN
  replace hb := hb.keep bN
  replace hm := hm.keep bN
  replace B1 := below_trans B1 bN
  clear bN
  cases hf : fewR xs
  · clear hf
    go_wp2
    go_ret
    exact ⟨rfl, B1⟩
  have HX := Lib.hid (fewR_sml hf)
  clear hf
  go_wp2_with fail
  refine (fewR_any _ ys _ hb).mono ?_
  rintro e w2 ⟨rfl, bN⟩
  replace hT := hT.keep bN
  replace ha := ha.keep bN
  replace hb := hb.keep bN
  replace hm := hm.keep bN
  replace B1 := below_trans B1 bN
  clear bN
  cases hf : fewR ys
  · clear hf
    go_wp2
    go_ret
    exact ⟨rfl, B1⟩
  have HY := Lib.hid (fewR_sml hf)
  clear hf
  by_cases hl : 6 < ts.length
  · have hlz : (6 : Int) < (ts.length : Int) := by omega
    go_wp2
    go_ret
    exact ⟨rfl, B1⟩
  have hlz : ¬ (6 : Int) < (ts.length : Int) := by omega
  clear hl
  go_wp2_with fail
  refine (UnionR_any _ _ xs ys _ hT ha hb (HX.out.mono (by decide)) (HY.out.mono (by decide))).mono ?_
  rintro e wu ⟨uu, rfl, lu, Ru, Ou, bN⟩
  replace Ru := Ru.rel
  have Hu := Lib.hid Ou
  clear Ou
  replace hT := hT.keep bN
  replace ha := ha.keep bN
  replace hb := hb.keep bN
  replace hm := hm.keep bN
  replace B1 := below_trans B1 bN
  clear bN
  go_wp2_with fail
  refine (MeetR_any _ _ xs ys _ hT ha hb (HX.out.mono (by decide)) (HY.out.mono (by decide))).mono ?_
  rintro e wm ⟨um, rfl, lm, Rm, Om, bN⟩
  replace Rm := Rm.rel
  have Hm := Lib.hid Om
  clear Om
  replace hT := hT.keep bN
  replace ha := ha.keep bN
  replace hb := hb.keep bN
  replace hm := hm.keep bN
  replace Ru := Ru.keep bN
  replace B1 := below_trans B1 bN
  clear bN
  go_wp2_with fail
  refine (MinusR_any _ _ xs ys _ hT ha hb (HX.out.mono (by decide)) (HY.out.mono (by decide))).mono ?_
  rintro e wd ⟨ud, rfl, ld, Rd, Od, bN⟩
  replace Rd := Rd.rel
  have Hd := Lib.hid Od
  clear Od
  replace hT := hT.keep bN
  replace ha := ha.keep bN
  replace hb := hb.keep bN
  replace hm := hm.keep bN
  replace Ru := Ru.keep bN
  replace Rm := Rm.keep bN
  replace B1 := below_trans B1 bN
  clear bN
  go_wp2_with fail
  refine (SelectR_any _ _ xs ts _ hT ha hm (HX.out.mono (by decide))).mono ?_
  rintro e wz ⟨uz, rfl, lz, Rz, Oz, bN⟩
  replace Rz := Rz.rel
  have Hz := Lib.hid Oz
  clear Oz
  replace hT := hT.keep bN
  replace ha := ha.keep bN
  replace hb := hb.keep bN
  replace hm := hm.keep bN
  replace Ru := Ru.keep bN
  replace Rm := Rm.keep bN
  replace Rd := Rd.keep bN
  replace B1 := below_trans B1 bN
  clear bN
  have SU := Lib.hid (Hu.out.sml _ _ HX.out HY.out)
  have SM := Lib.hid (Hm.out.sml _ _ HX.out HY.out)
  have SD := Lib.hid (Hd.out.sml _ _ HX.out HY.out)
  have SZ := Lib.hid (Hz.out.sml _ (HX.out.filter _))
  have hxl : xs.length ≤ 40 := HX.out.len
  go_wp2
  go_loopg [12, 13] 64 (fun g v12 vi wr => ∃ (k : Nat) (A : List RR), vi = .int .i64 k ∧ k ≤ 64 ∧ 64 - k ≤ g ∧ Hid (Sofar xs A k) ∧ Hid (A.length ≤ 40 * k) ∧ Hold 2 44 encR RowOk noB wr wz.heap.size v12 A ∧ Below wz.heap.size wz wr)
  case atStart => exact ⟨0, [], rfl, Nat.zero_le _, Nat.le_refl _, Lib.hid (Sofar.start _), Lib.hid (by simp), Hold.nil _ _, Below.refl _ _⟩
  case round =>
    obtain ⟨k, A, rfl, hk, hg, V, VL, H12, B⟩ := hrel
    obtain ⟨p12, c12, rfl⟩ := H12.form
    have hAl : A.length ≤ 2560 := by have := VL.out; omega
    have qhT := hT.keep B
    have qha := ha.keep B
    have qhb := hb.keep B
    have qhm := hm.keep B
    have qRu := Ru.keep B
    have qRm := Rm.keep B
    have qRd := Rd.keep B
    have qRz := Rz.keep B
    by_cases hlt : k < 64
    · have hltz : (k : Int) < 64 := by omega
      have HK := Lib.hid hlt
      go_wp2_with fail
      refine (AtF_any _ xs (k : Int) _ qhT qha (HX.out.mono (by decide))).mono ?_
      rintro e wx ⟨ux, rfl, tx, Fx, Hx, hlx, bN⟩
      have OX : Off (IsTx ux tx) wx (fun j => j < wr.heap.size) () := fun w' hw => Fx w' hw
      have HB12 := Lib.hid (fun j (hj : (Value.slice p12 A.length c12).ownBlock = some j) => (H12.1.lt j hj).2)
      have Tx := Fx.tups
      clear Fx
      replace qhT := qhT.keep bN
      replace qha := qha.keep bN
      replace qhb := qhb.keep bN
      replace qhm := qhm.keep bN
      replace qRu := qRu.keep bN
      replace qRm := qRm.keep bN
      replace qRd := qRd.keep bN
      replace qRz := qRz.keep bN
      replace H12 := H12.keep bN
      replace B := B.trans (bN.mono B.size)
      clear bN
      go_wp2_with fail
      refine (AtR_any _ ys (k : Int) _ qhT qhb (HY.out.mono (by decide))).mono ?_
      rintro e wy ⟨uy, rfl, ty, Ty, Hy, hly, bN⟩
      replace qhT := qhT.keep bN
      replace qha := qha.keep bN
      replace qhb := qhb.keep bN
      replace qhm := qhm.keep bN
      replace qRu := qRu.keep bN
      replace qRm := qRm.keep bN
      replace qRd := qRd.keep bN
      replace qRz := qRz.keep bN
      replace H12 := H12.keep bN
      replace Tx := Tx.keep bN
      replace OX := OX.keep bN
      replace B := B.trans (bN.mono B.size)
      clear bN
      go_wp2_with fail
      refine (AtR_any _ lu (k : Int) _ qhT qRu (SU.out.mono (by decide))).mono ?_
      rintro e wv ⟨uv, rfl, tv, Tv, Hv, hlv, bN⟩
      have hlu := SU.out.len
      replace qhT := qhT.keep bN
      replace qha := qha.keep bN
      replace qhb := qhb.keep bN
      replace qhm := qhm.keep bN
      replace qRu := qRu.keep bN
      replace qRm := qRm.keep bN
      replace qRd := qRd.keep bN
      replace qRz := qRz.keep bN
      replace H12 := H12.keep bN
      replace Tx := Tx.keep bN
      replace OX := OX.keep bN
      replace Ty := Ty.keep bN
      replace B := B.trans (bN.mono B.size)
      clear bN
      go_wp2_with fail
      refine (AtR_any _ lm (k : Int) _ qhT qRm (SM.out.mono (by decide))).mono ?_
      rintro e wa ⟨ua, rfl, ta, Ta, Ha, hla, bN⟩
      replace qhT := qhT.keep bN
      replace qha := qha.keep bN
      replace qhb := qhb.keep bN
      replace qhm := qhm.keep bN
      replace qRu := qRu.keep bN
      replace qRm := qRm.keep bN
      replace qRd := qRd.keep bN
      replace qRz := qRz.keep bN
      replace H12 := H12.keep bN
      replace Tx := Tx.keep bN
      replace OX := OX.keep bN
      replace Ty := Ty.keep bN
      replace Tv := Tv.keep bN
      replace B := B.trans (bN.mono B.size)
      clear bN
      have hyl : ys.length ≤ 40 := HY.out.len
      go_wp2_with fail
      refine (kept_any _ _ tx ty true _ Tx Ty (by omega)).mono ?_
      rintro e wb ⟨pk, ck, tk, rfl, Tk, Hk, hlk, bN⟩
      replace qhT := qhT.keep bN
      replace qha := qha.keep bN
      replace qhb := qhb.keep bN
      replace qhm := qhm.keep bN
      replace qRu := qRu.keep bN
      replace qRm := qRm.keep bN
      replace qRd := qRd.keep bN
      replace qRz := qRz.keep bN
      replace H12 := H12.keep bN
      replace Tx := Tx.keep bN
      replace OX := OX.keep bN
      replace Ty := Ty.keep bN
      replace Tv := Tv.keep bN
      replace Ta := Ta.keep bN
      replace B := B.trans (bN.mono B.size)
      clear bN
      go_wp2_with fail
      refine (rSameT_any _ _ ta tk _ Ta Tk).mono ?_
      rintro e wc ⟨rfl, bN⟩
      rw [decide_eq_true (show tups ta = tups tk from (at_meet HK.out Hm.out Hx.out Hy.out Ha.out).trans Hk.out.symm)]
      replace qhT := qhT.keep bN
      replace qha := qha.keep bN
      replace qhb := qhb.keep bN
      replace qhm := qhm.keep bN
      replace qRu := qRu.keep bN
      replace qRm := qRm.keep bN
      replace qRd := qRd.keep bN
      replace qRz := qRz.keep bN
      replace H12 := H12.keep bN
      replace Tx := Tx.keep bN
      replace OX := OX.keep bN
      replace Ty := Ty.keep bN
      replace Tv := Tv.keep bN
      replace B := B.trans (bN.mono B.size)
      clear bN
      clear Ta Tk
      clear Ha Hk
      go_wp2_with fail
      refine (AtR_any _ ld (k : Int) _ qhT qRd (SD.out.mono (by decide))).mono ?_
      rintro e wa ⟨ua2, rfl, ta2, Ta, Ha, hla2, bN⟩
      replace qhT := qhT.keep bN
      replace qha := qha.keep bN
      replace qhb := qhb.keep bN
      replace qhm := qhm.keep bN
      replace qRu := qRu.keep bN
      replace qRm := qRm.keep bN
      replace qRd := qRd.keep bN
      replace qRz := qRz.keep bN
      replace H12 := H12.keep bN
      replace Tx := Tx.keep bN
      replace OX := OX.keep bN
      replace Ty := Ty.keep bN
      replace Tv := Tv.keep bN
      replace B := B.trans (bN.mono B.size)
      clear bN
      go_wp2_with fail
      refine (kept_any _ _ tx ty false _ Tx Ty (by omega)).mono ?_
      rintro e wb ⟨pk2, ck2, tk2, rfl, Tk, Hk, hlk2, bN⟩
      replace qhT := qhT.keep bN
      replace qha := qha.keep bN
      replace qhb := qhb.keep bN
      replace qhm := qhm.keep bN
      replace qRu := qRu.keep bN
      replace qRm := qRm.keep bN
      replace qRd := qRd.keep bN
      replace qRz := qRz.keep bN
      replace H12 := H12.keep bN
      replace Tx := Tx.keep bN
      replace OX := OX.keep bN
      replace Ty := Ty.keep bN
      replace Tv := Tv.keep bN
      replace Ta := Ta.keep bN
      replace B := B.trans (bN.mono B.size)
      clear bN
      go_wp2_with fail
      refine (rSameT_any _ _ ta2 tk2 _ Ta Tk).mono ?_
      rintro e wc ⟨rfl, bN⟩
      rw [decide_eq_true (show tups ta2 = tups tk2 from (at_minus HK.out Hd.out Hx.out Hy.out Ha.out).trans Hk.out.symm)]
      replace qhT := qhT.keep bN
      replace qha := qha.keep bN
      replace qhb := qhb.keep bN
      replace qhm := qhm.keep bN
      replace qRu := qRu.keep bN
      replace qRm := qRm.keep bN
      replace qRd := qRd.keep bN
      replace qRz := qRz.keep bN
      replace H12 := H12.keep bN
      replace Tx := Tx.keep bN
      replace OX := OX.keep bN
      replace Ty := Ty.keep bN
      replace Tv := Tv.keep bN
      replace B := B.trans (bN.mono B.size)
      clear bN
      clear Ta Tk
      clear Ha Hk
      go_wp2_with fail
      refine (kept_any _ _ tx tv false _ Tx Tv (by omega)).mono ?_
      rintro e wb ⟨pk3, ck3, tk3, rfl, -, Hk, -, bN⟩
      obtain rfl := tups_nil (Hk.out.trans (at_left HK.out Hu.out Hx.out Hv.out))
      clear Hk
      replace qhT := qhT.keep bN
      replace qha := qha.keep bN
      replace qhb := qhb.keep bN
      replace qhm := qhm.keep bN
      replace qRu := qRu.keep bN
      replace qRm := qRm.keep bN
      replace qRd := qRd.keep bN
      replace qRz := qRz.keep bN
      replace H12 := H12.keep bN
      replace Tx := Tx.keep bN
      replace OX := OX.keep bN
      replace Ty := Ty.keep bN
      replace Tv := Tv.keep bN
      replace B := B.trans (bN.mono B.size)
      clear bN
      go_wp2_with fail
      refine (kept_any _ _ ty tv false _ Ty Tv (by omega)).mono ?_
      rintro e wb ⟨pk4, ck4, tk4, rfl, -, Hk, -, bN⟩
      obtain rfl := tups_nil (Hk.out.trans (at_right HK.out Hu.out Hy.out Hv.out))
      clear Hk
      replace qhT := qhT.keep bN
      replace qha := qha.keep bN
      replace qhb := qhb.keep bN
      replace qhm := qhm.keep bN
      replace qRu := qRu.keep bN
      replace qRm := qRm.keep bN
      replace qRd := qRd.keep bN
      replace qRz := qRz.keep bN
      replace H12 := H12.keep bN
      replace Tx := Tx.keep bN
      replace OX := OX.keep bN
      replace Ty := Ty.keep bN
      replace Tv := Tv.keep bN
      replace B := B.trans (bN.mono B.size)
      clear bN
      go_wp2_with fail
      refine (kept_any _ _ tv tx false _ Tv Tx (by omega)).mono ?_
      rintro e wb ⟨pk5, ck5, tk5, rfl, Tk, Hk, hlk5, bN⟩
      replace qhT := qhT.keep bN
      replace qha := qha.keep bN
      replace qhb := qhb.keep bN
      replace qhm := qhm.keep bN
      replace qRu := qRu.keep bN
      replace qRm := qRm.keep bN
      replace qRd := qRd.keep bN
      replace qRz := qRz.keep bN
      replace H12 := H12.keep bN
      replace Tx := Tx.keep bN
      replace OX := OX.keep bN
      replace Ty := Ty.keep bN
      replace Tv := Tv.keep bN
      replace B := B.trans (bN.mono B.size)
      clear bN
      go_wp2_with fail
      refine (kept_any _ _ tk5 ty false _ Tk Ty (by omega)).mono ?_
      rintro e wd ⟨pk6, ck6, tk6, rfl, -, Hk6, -, bN⟩
      obtain rfl := tups_nil (Hk6.out.trans (by rw [Hk.out]; exact at_rest HK.out Hu.out Hx.out Hy.out Hv.out))
      clear Hk6
      replace qhT := qhT.keep bN
      replace qha := qha.keep bN
      replace qhb := qhb.keep bN
      replace qhm := qhm.keep bN
      replace qRu := qRu.keep bN
      replace qRm := qRm.keep bN
      replace qRd := qRd.keep bN
      replace qRz := qRz.keep bN
      replace H12 := H12.keep bN
      replace Tx := Tx.keep bN
      replace OX := OX.keep bN
      replace B := B.trans (bN.mono B.size)
      clear bN
      clear Tk Tv Ty
      obtain ⟨px, cx, rfl, -, -, -⟩ := Tx.shape
      have TS : Twin 2 44 encR RowOk 1 25 encTT TupOk wd wz.heap.size (.slice p12 A.length c12) A wz.heap.size (.slice none 0 0) [] := Twin.start H12
      have OS : Off (IsTx (.slice px tx.length cx) tx) wd (Both (.slice p12 A.length c12) (.slice none 0 0)) () := fun w' hw => OX w' (hw.mono fun j hj => by
        rcases hj with hj | hj
        · exact HB12.out j hj
        · cases hj)
      have hxx : tx.length ≤ 40 := by omega
      clear H12 OX Tx HB12 Hk
      go_wp2
      go_loopg [12, 17, 18] tx.length (fun g v12 v17 vi wq => ∃ (i : Nat) (A' : List RR) (L : List TT), vi = .int .i64 i ∧ i ≤ tx.length ∧ tx.length - i ≤ g ∧ Hid (SofarI xs A' k (tups (tx.take i))) ∧ Hid (A'.length ≤ 40 * k + i) ∧ Hid (tups L = (tups (tx.take i)).filter (matchL ts)) ∧ Hid (L.length ≤ i) ∧ Twin 2 44 encR RowOk 1 25 encTT TupOk wq wz.heap.size v12 A' wz.heap.size v17 L ∧ Off (IsTx (.slice px tx.length cx) tx) wq (Both v12 v17) () ∧ Below wz.heap.size wz wq)
      case atStart => exact ⟨0, A, [], rfl, Nat.zero_le _, Nat.le_refl _, Lib.hid (by simpa [tups] using V.out.inner), Lib.hid (by have := VL.out; omega), Lib.hid (by simp [tups]), Lib.hid (by simp), TS, OS, B⟩
      case round =>
        obtain ⟨i, A', L, rfl, hi, hg2, VI, VM, VP, VQ, T, O, Bq⟩ := hrel
        obtain ⟨p12', c12', rfl⟩ := T.ou.form
        obtain ⟨p17, c17, rfl⟩ := T.ov.form
        have hA2 : A'.length ≤ 2600 := by have := VM.out; omega
        have hL2 : L.length ≤ 40 := by have := VQ.out; omega
        by_cases hli : i < tx.length
        · have hliz : (i : Int) < (tx.length : Int) := by omega
          obtain ⟨x, hx⟩ := getElem_of_lt hli
          obtain ⟨bb, off, e, c0, rx⟩ := IsTups.at_ (Off.here O) hx
          cases e
          have HXM := Lib.hid (List.mem_of_getElem? hx)
          have HX2 := Lib.hid hx
          clear hx
          go_wp2_with fail
          refine (rMatches_any _ _ x.t ts _ rx (hm.keep Bq)).mono ?_
          rintro e w1 ⟨rfl, B2⟩
          replace T := T.keep B2
          replace O := O.keep B2
          replace c0 := cell_keep B2 c0
          replace Bq := Bq.trans (B2.mono Bq.size)
          clear rx B2
          obtain ⟨q, hq⟩ : ∃ q, matchL ts x.t = q := ⟨_, rfl⟩
          rw [hq]
          have VP2 := Lib.hid (show (tups (tx.take (i + 1))).filter (matchL ts) = tups L ++ (if q = true then [x.t] else []) by
            rw [take_succ' HX2.out, VP.out]
            unfold tups
            rw [List.map_append, List.filter_append, List.map_cons, List.map_nil, List.filter_cons, hq]; rfl)
          clear hq
          have VI2 := Lib.hid (show ∀ (p : Option Addr) (s1 : List Sp) (n1 : Nat), n1 = 1 → s1 = [((k : Int), (k : Int) + 1)] → SofarI xs (A' ++ [(⟨x.p, x.c, x.t, p, n1, s1⟩ : RR)]) k (tups (tx.take (i + 1))) from fun p s1 n1 _ hs1 => by
            rw [take_succ' HX2.out]
            unfold tups
            rw [List.map_append]
            exact SofarI.step VI.out (y := ⟨x.p, x.c, x.t, p, n1, s1⟩) hs1 (at_len Hx.out HX.out (List.mem_map.2 ⟨x, HXM.out, rfl⟩)))
          cases q with
          | true =>
            have bX := below_new w1 (.cells #[x.v] 25)
            have hmr : IsRows 1 encTT (w1.alloc (.cells #[x.v] 25)) (.slice (some ⟨w1.heap.size, 0, none⟩) 1 1) [x] := IsRows.lit w1 [x] encsT (by simp)
            have hox : ∀ y ∈ [x], Off TupOk (w1.alloc (.cells #[x.v] 25)) (Both (.slice p17 L.length c17) (.slice p12' A'.length c12')) y := fun y hy w' hw => by
              rw [List.mem_singleton.1 hy]
              exact ((O.keep bX) w' (hw.mono fun _ h => h.symm)).2 x HXM.out
            have c0' := cell_keep bX c0
            go_upto_region 22 with fail
            go_wp2_with (at_builtin; refine wpList_own (v := .slice p17 L.length c17) fitsT encsT rfl _ _ rfl rfl rfl T.ov bX hmr Bq.size (by omega) (by simp) ?_; intro p9 c9 w9 H9 B9 hG9 hU9; rw [show (L ++ [x]).length = L.length + 1 from by simp] at H9 hU9)
            have T9 := (Twin.push (oka := TupOk) (okb := RowOk) (fun y a b => tupOk_keep a b y) (fun y a b => rowOk_keep a b y) T.swap bX H9 hG9 hU9 hox).swap
            have O9 : Off (IsTx (.slice (some ⟨bb, off, none⟩) tx.length cx) tx) w9 (Both (.slice p12' A'.length c12') (.slice p9 (L.length + 1) c9)) () := fun w' hw => (Twin.off (isTx_keep _ _) (fun w' hw => (O.keep bX) w' (hw.mono fun _ h => h.symm)) hG9 hU9) w' (hw.mono fun _ h => h.symm)
            have VPn := Lib.hid (show tups (L ++ [x]) = (tups (tx.take (i + 1))).filter (matchL ts) by rw [VP2.out]; simp [tups])
            have VQn := Lib.hid (show (L ++ [x]).length ≤ i + 1 by have := VQ.out; simp; omega)
            replace Bq := Bq.trans B9
            clear T O hG9 hU9 H9 c0 c0' hox hmr
            have T := T9
            have O := O9
            clear T9 O9
            obtain ⟨_, _, e, c9', -⟩ := IsTups.at_ (Off.here O) HX2.out
            cases e
            have HW : ∀ j, Both (.slice p12' A'.length c12') (.slice p9 (L.length + 1) c9) j → j < w9.heap.size := fun j hj => by
              rcases hj with hj | hj
              · exact (T.ou.lt j hj).2
              · exact (T.ov.lt j hj).2
            have OT : Off TupOk w9 (Both (.slice p12' A'.length c12') (.slice p9 (L.length + 1) c9)) x := fun w' hw => (O w' hw).2 x HXM.out
            have hk2 : (0 : Int) ≤ (k : Int) ∧ (k : Int) < 100 := by omega
            go_wp2
            go_region_law
              (first
                | (go_simp; go_at_call 47; refine One_ts (w0 := w9) hk2 (by with_reducible (repeat (first | assumption | exact Below.refl _ _ | refine below_alloc' ?_ | refine below_drew' ?_ | refine below_step (by assumption) ?_))) ?_; intro g6 w6 hS6 hg6 hB6; have cF := cell_keep hB6 c9'; have bY := below_new w6 (.cells #[x.v, .slice (some ⟨g6, 0, none⟩) 1 1] 44); have hmr2 : IsRows 2 encR (w6.alloc (.cells #[x.v, .slice (some ⟨g6, 0, none⟩) 1 1] 44)) (.slice (some ⟨w6.heap.size, 0, none⟩) 1 1) [(⟨x.p, x.c, x.t, some ⟨g6, 0, none⟩, 1, [((k : Int), (k : Int) + 1)]⟩ : RR)] := IsRows.lit w6 [_] encsR (by simp); have bZ : Below w9.heap.size w9 (w6.alloc (.cells #[x.v, .slice (some ⟨g6, 0, none⟩) 1 1] 44)) := below_alloc' hB6; have cG := cell_keep bY cF)
                | (refine step_own (wr := w9) (v := .slice p12' A'.length c12') fitsR24 encsR (by rfl) (.tmp 115) (.tmp 123) (by rfl) (by rfl) (by rfl) T.ou (by first | exact bZ | exact bZ.drew | exact bZ.drew.drew) (by exact hmr2) Bq.size (by omega) (by simp) ?_; intro p8 c8 w8 H8 B8 hG8 hU8; rw [show (A' ++ [(⟨x.p, x.c, x.t, some ⟨g6, 0, none⟩, 1, [((k : Int), (k : Int) + 1)]⟩ : RR)]).length = A'.length + 1 from by simp] at H8 hU8))
            all_goals
              have bW : Below w6.heap.size w6 (w6.alloc (.cells #[x.v, .slice (some ⟨g6, 0, none⟩) 1 1] 44)) := bY
              have OR : Off RowOk w6 (Both (.slice p12' A'.length c12') (.slice p9 (L.length + 1) c9)) ⟨x.p, x.c, x.t, some ⟨g6, 0, none⟩, 1, [((k : Int), (k : Int) + 1)]⟩ := row_off (s := [((k : Int), (k : Int) + 1)]) (OT.keep hB6) hS6 hg6 HW
              have T8 := Twin.push (oka := RowOk) (okb := TupOk) (fun y a b => rowOk_keep a b y) (fun y a b => tupOk_keep a b y) T bZ H8 hG8 hU8 (fun y hy => by rw [List.mem_singleton.1 hy]; exact OR.keep bW)
              have O8 := Twin.off (isTx_keep _ _) (O.keep bZ) hG8 hU8
              go_wp2
              go_roundg (tx.length - (i + 1))
              case measure => omega
              case rel => exact ⟨i + 1, _, _, by go_num, hli, Nat.le_refl _, Lib.hid (VI2.out (some ⟨g6, 0, none⟩) _ 1 rfl rfl), Lib.hid (by have := VM.out; simp; omega), VPn, VQn, T8, O8, Bq.trans B8⟩
          | false =>
            have VPn := Lib.hid (show tups L = (tups (tx.take (i + 1))).filter (matchL ts) by rw [VP2.out]; simp)
            have VQn := Lib.hid (show L.length ≤ i + 1 by have := VQ.out; omega)
            have HW : ∀ j, Both (.slice p12' A'.length c12') (.slice p17 L.length c17) j → j < w1.heap.size := fun j hj => by
              rcases hj with hj | hj
              · exact (T.ou.lt j hj).2
              · exact (T.ov.lt j hj).2
            have OT : Off TupOk w1 (Both (.slice p12' A'.length c12') (.slice p17 L.length c17)) x := fun w' hw => (O w' hw).2 x HXM.out
            have hk2 : (0 : Int) ≤ (k : Int) ∧ (k : Int) < 100 := by omega
            go_wp2
            go_region_law
              (first
                | (go_simp; go_at_call 47; refine One_ts (w0 := w1) hk2 (by with_reducible (repeat (first | assumption | exact Below.refl _ _ | refine below_alloc' ?_ | refine below_drew' ?_ | refine below_step (by assumption) ?_))) ?_; intro g6 w6 hS6 hg6 hB6; have cF := cell_keep hB6 c0; have bY := below_new w6 (.cells #[x.v, .slice (some ⟨g6, 0, none⟩) 1 1] 44); have hmr2 : IsRows 2 encR (w6.alloc (.cells #[x.v, .slice (some ⟨g6, 0, none⟩) 1 1] 44)) (.slice (some ⟨w6.heap.size, 0, none⟩) 1 1) [(⟨x.p, x.c, x.t, some ⟨g6, 0, none⟩, 1, [((k : Int), (k : Int) + 1)]⟩ : RR)] := IsRows.lit w6 [_] encsR (by simp); have bZ : Below w1.heap.size w1 (w6.alloc (.cells #[x.v, .slice (some ⟨g6, 0, none⟩) 1 1] 44)) := below_alloc' hB6; have cG := cell_keep bY cF)
                | (refine step_own (wr := w1) (v := .slice p12' A'.length c12') fitsR24 encsR (by rfl) (.tmp 115) (.tmp 123) (by rfl) (by rfl) (by rfl) T.ou (by first | exact bZ | exact bZ.drew | exact bZ.drew.drew) (by exact hmr2) Bq.size (by omega) (by simp) ?_; intro p8 c8 w8 H8 B8 hG8 hU8; rw [show (A' ++ [(⟨x.p, x.c, x.t, some ⟨g6, 0, none⟩, 1, [((k : Int), (k : Int) + 1)]⟩ : RR)]).length = A'.length + 1 from by simp] at H8 hU8))
            all_goals
              have bW : Below w6.heap.size w6 (w6.alloc (.cells #[x.v, .slice (some ⟨g6, 0, none⟩) 1 1] 44)) := bY
              have OR : Off RowOk w6 (Both (.slice p12' A'.length c12') (.slice p17 L.length c17)) ⟨x.p, x.c, x.t, some ⟨g6, 0, none⟩, 1, [((k : Int), (k : Int) + 1)]⟩ := row_off (s := [((k : Int), (k : Int) + 1)]) (OT.keep hB6) hS6 hg6 HW
              have T8 := Twin.push (oka := RowOk) (okb := TupOk) (fun y a b => rowOk_keep a b y) (fun y a b => tupOk_keep a b y) T bZ H8 hG8 hU8 (fun y hy => by rw [List.mem_singleton.1 hy]; exact OR.keep bW)
              have O8 := Twin.off (isTx_keep _ _) (O.keep bZ) hG8 hU8
              go_wp2
              go_roundg (tx.length - (i + 1))
              case measure => omega
              case rel => exact ⟨i + 1, _, _, by go_num, hli, Nat.le_refl _, Lib.hid (VI2.out (some ⟨g6, 0, none⟩) _ 1 rfl rfl), Lib.hid (by have := VM.out; simp; omega), VPn, VQn, T8, O8, Bq.trans B8⟩
        · have hliz : ¬ (i : Int) < (tx.length : Int) := by omega
          have VS := Lib.hid (show Sofar xs A' (k + 1) from SofarI.done (a := tups tx) (by have := VI.out; rwa [List.take_of_length_le (by omega)] at this) HK.out Hx.out)
          have VSL := Lib.hid (show A'.length ≤ 40 * (k + 1) by have := VM.out; omega)
          have VF := Lib.hid (show tups L = (tups tx).filter (matchL ts) by have := VP.out; rwa [List.take_of_length_le (by omega)] at this)
          have TL : IsTups wr (.slice p17 L.length c17) L := ⟨T.ov.is encsT (by omega), fun y hy => Off.here (T.ev y hy)⟩
          replace H12 := T.hold
          have qhT := hT.keep Bq
          have qRz := Rz.keep Bq
          clear T O
          go_wp2_with fail
          refine (AtR_any _ lz (k : Int) _ qhT qRz (SZ.out.mono (by decide))).mono ?_
          rintro e wa ⟨ua3, rfl, ta3, Ta, Ha, hla3, bN⟩
          replace qhT := qhT.keep bN
          replace qRz := qRz.keep bN
          replace H12 := H12.keep bN
          replace TL := TL.keep bN
          replace Bq := Bq.trans (bN.mono Bq.size)
          clear bN
          go_wp2_with fail
          refine (rSameT_any _ _ ta3 L _ Ta TL).mono ?_
          rintro e wc ⟨rfl, bN⟩
          rw [decide_eq_true (show tups ta3 = tups L from (at_select HK.out (P := matchL ts) Hz.out Hx.out Ha.out).trans VF.out.symm)]
          replace qhT := qhT.keep bN
          replace qRz := qRz.keep bN
          replace H12 := H12.keep bN
          replace TL := TL.keep bN
          replace Ta := Ta.keep bN
          replace Bq := Bq.trans (bN.mono Bq.size)
          clear bN
          go_wp2
          go_roundg (64 - (k + 1))
          case measure => omega
          case rel => exact ⟨k + 1, A', by go_num, by omega, Nat.le_refl _, VS, VSL, H12, Bq⟩
    · have hltz : ¬ (k : Int) < 64 := by omega
      obtain rfl : k = 64 := by omega
      have RA := H12.rel (by omega)
      have SA := Lib.hid (show Sml 2560 A from ⟨hAl, V.out.2⟩)
      replace B1 := below_trans B1 B
      go_wp2_with fail
      refine (UnionR_any _ _ A [] _ qhT RA (IsRel.nil _) (SA.out.mono (by decide)) (Sml.nil _)).mono ?_
      rintro e we ⟨ue, rfl, le, Re, Oe, bN⟩
      replace Re := Re.rel
      have He := Lib.hid Oe
      clear Oe
      replace qhT := qhT.keep bN
      replace qha := qha.keep bN
      replace RA := RA.keep bN
      replace B1 := below_trans B1 bN
      clear bN
      go_wp2_with fail
      refine (UnionR_any _ _ xs [] _ qhT qha (IsRel.nil _) (HX.out.mono (by decide)) (Sml.nil _)).mono ?_
      rintro e wf ⟨uf, rfl, lf, Rf, Of, bN⟩
      replace Rf := Rf.rel
      have Hf := Lib.hid Of
      clear Of
      replace qhT := qhT.keep bN
      replace qha := qha.keep bN
      replace RA := RA.keep bN
      replace Re := Re.keep bN
      replace B1 := below_trans B1 bN
      clear bN
      go_wp2_with fail
      refine (rSameR_any _ _ le lf _ Re Rf).mono ?_
      rintro e ws ⟨rfl, bN⟩
      rw [decide_eq_true (sofar_same V.out He.out Hf.out)]
      replace qhT := qhT.keep bN
      replace qha := qha.keep bN
      replace RA := RA.keep bN
      replace B1 := below_trans B1 bN
      clear bN
      clear Re Rf
      go_wp2
      go_ret
      exact ⟨rfl, B1⟩
end Go.Proofs.YtdibijhaiaiifaaDoor
