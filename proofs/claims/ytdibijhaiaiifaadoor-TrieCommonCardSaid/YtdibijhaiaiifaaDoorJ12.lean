/- Parts Sel, Ni, Ra, Ha: words, walks and laws that the claims of this seat share. -/
import Derived.Test.YtdibijhaiaiifaaDoorJ11
import Derived.BigQuiet
/- The walk of Select. -/
namespace Go.Proofs.YtdibijhaiaiifaaDoor
open Go.RowKit
/-- A term: a variable's name, or none and a value. -/
structure Tm where
  v : List UInt8
  c : Vl
  ok : v.length ≤ 9223372036854775807
def encTm (m : Tm) : List Value := [strV m.v, .int .i64 m.c.t, .int .i64 m.c.n, strV m.c.s]
theorem encsTm : Encs 4 encTm := ⟨fun _ => rfl, fun x u hu => by unfold encTm at hu; simp at hu; rcases hu with rfl | rfl | rfl | rfl <;> rfl⟩
def IsTerms (w : World) (v : Value) (ts : List Tm) : Prop := IsRows 4 encTm w v ts
theorem IsTerms.keep {w w' : World} {v : Value} {ts : List Tm} (h : IsTerms w v ts) (hb : Below w.heap.size w w') : IsTerms w' v ts := IsRows.keep h (keeps_below hb)
theorem IsTerms.shape {w : World} {v : Value} {ts : List Tm} (h : IsTerms w v ts) : ∃ a c, v = .slice a ts.length c ∧ ts.length ≤ 9223372036854775807 := by
  obtain ⟨a, c, e, _, hm⟩ := h
  exact ⟨a, c, e, hm.1⟩
theorem IsTerms.at_ {w : World} {a : Option Addr} {n c : Nat} {ts : List Tm} (h : IsTerms w (.slice a n c) ts) {i : Nat} {m : Tm} (hi : ts[i]? = some m) :
    ∃ b off, a = some ⟨b, off, none⟩ ∧ w.cell? ⟨b, off + i * 4, none⟩ = some (strV m.v) ∧ w.cell? ⟨b, off + i * 4 + 1, none⟩ = some (.int .i64 m.c.t) ∧ w.cell? ⟨b, off + i * 4 + 2, none⟩ = some (.int .i64 m.c.n) ∧ w.cell? ⟨b, off + i * 4 + 3, none⟩ = some (strV m.c.s) := by
  obtain ⟨a', c', e, hr, hm⟩ := h
  injection e with e1 e2 e3
  subst e1
  obtain ⟨b, off, ha, hc⟩ := hr.at_ hi
  have hc := hc i m hi
  exact ⟨b, off, ha, hc 0 _ rfl, hc 1 _ rfl, hc 2 _ rfl, hc 3 _ rfl⟩
/-- The first term with a variable's name. -/
def firstOf (ts : List Tm) (v : List UInt8) : Nat := ts.findIdx fun u => decide (u.v = v)
theorem firstOf_le {ts : List Tm} {i : Nat} {m : Tm} (h : ts[i]? = some m) : firstOf ts m.v ≤ i := by
  obtain ⟨hl, e⟩ := List.getElem?_eq_some_iff.1 h
  refine Nat.not_lt.1 fun hlt => ?_
  have := List.not_of_lt_findIdx hlt
  rw [e] at this
  simp at this
/-- Whether the term at i lets a tuple pass. -/
def okAt (ts : List Tm) (t : Tp) (i : Nat) : Bool := match ts[i]?, t[i]? with
  | some m, some y => if m.v = [] then decide (y = m.c) else decide (t[firstOf ts m.v]? = some y)
  | _, _ => false
def matchL (ts : List Tm) (t : Tp) : Bool := decide (t.length = ts.length) && (List.range ts.length).all (okAt ts t)
theorem okAt_const {ts : List Tm} {t : Tp} {i : Nat} {m : Tm} {y : Vl} (h : ts[i]? = some m) (k : t[i]? = some y) (hv : m.v = []) : okAt ts t i = decide (y = m.c) := by unfold okAt; rw [h, k]; simp [hv]
theorem okAt_var {ts : List Tm} {t : Tp} {i : Nat} {m : Tm} {y z : Vl} (h : ts[i]? = some m) (k : t[i]? = some y) (hv : m.v ≠ []) (hz : t[firstOf ts m.v]? = some z) : okAt ts t i = decide (z = y) := by unfold okAt; rw [h, k]; simp [hv, hz]
theorem match_not {ts : List Tm} {t : Tp} {i : Nat} (hi : i < ts.length) (h : okAt ts t i = false) : matchL ts t = false := by
  unfold matchL
  rw [Bool.and_eq_false_iff]
  refine .inr ?_
  rw [List.all_eq_false]
  exact ⟨i, List.mem_range.2 hi, by rw [h]; simp⟩
theorem match_all {ts : List Tm} {t : Tp} (hl : t.length = ts.length) (h : ∀ j, j < ts.length → okAt ts t j = true) : matchL ts t = true := by
  unfold matchL
  rw [decide_eq_true hl, Bool.true_and, List.all_eq_true]
  exact fun j hj => h j (List.mem_range.1 hj)
theorem sel11_any (u : Tm) (b5 : Nat) (l : List UInt8) (w : World) (hb : w.cell? ⟨b5, 0, none⟩ = some (strV l)) :
    Calls Tryd.prog 92 #[.agg #[strV u.v, .int .i64 u.c.t, .int .i64 u.c.n, strV u.c.s], .pointer (some ⟨b5, 0, none⟩)] w fun e w' => e = .returned (.bool (decide (u.v = l))) ∧ Below w.heap.size w w' := by
  have BA := below_new w (.cells #[strV u.v, .int .i64 u.c.t, .int .i64 u.c.n, strV u.c.s] 60)
  have X := Cel.new w 60 [strV u.v, .int .i64 u.c.t, .int .i64 u.c.n, strV u.c.s]
  go_enter Tryd.func92, Tryd.ntmps92
  go_upto_region 1 with fail
  obtain ⟨wA, hwA⟩ : ∃ z, w.alloc (.cells #[strV u.v, .int .i64 u.c.t, .int .i64 u.c.n, strV u.c.s] 60) = z := ⟨_, rfl⟩
  have X' : Cel wA w.heap.size 60 [strV u.v, .int .i64 u.c.t, .int .i64 u.c.n, strV u.c.s] := by rw [← hwA]; exact X
  rw [hwA] at BA
  rw [hwA]
  clear hwA X
  have q0 := X'.at_ (j := 0) rfl
  replace hb := cell_keep BA hb
  go_wp2
  go_ret
  exact ⟨by rw [← beq_dec]; rfl, BA⟩
set_option maxHeartbeats 4000000 in
set_option maxRecDepth 1000000 in
theorem indexTm_any (va : Value) (ts : List Tm) (b5 : Nat) (l : List UInt8) (f : Nat) (w : World) (h : IsTerms w va ts) (hb : w.cell? ⟨b5, 0, none⟩ = some (strV l)) (hf : f = firstOf ts l) (hfl : f < ts.length) :
    Calls Tryd.prog 91 #[va, .func (.func 92) #[] #[.pointer (some ⟨b5, 0, none⟩)]] w fun e w' => e = .returned (.int .i64 f) ∧ Below w.heap.size w w' := by
  have HF := Lib.hid hf
  clear hf
  obtain ⟨pa, pc, rfl, hm⟩ := h.shape
  go_enter Tryd.func91, Tryd.ntmps91
  go_wp2
  go_loopg [8] ts.length (fun g vi wr => ∃ (i : Nat), vi = .int .i64 i ∧ i ≤ f ∧ ts.length - i ≤ g ∧ Below w.heap.size w wr)
  case atStart => exact ⟨0, rfl, Nat.zero_le _, Nat.le_refl _, Below.refl _ _⟩
  case round =>
    obtain ⟨i, rfl, hi, hg, B⟩ := hrel
    have hlt : i < ts.length := by omega
    have hltz : (i : Int) < (ts.length : Int) := by omega
    obtain ⟨m, hx⟩ := getElem_of_lt hlt
    obtain ⟨b, off, e, c0, c1, c2, c3⟩ := (h.keep B).at_ hx
    cases e
    have hC := sel11_any m b5 l wr (cell_keep B hb)
    have HX := Lib.hid hx
    clear hx
    go_wp2_with fail
    refine hC.mono ?_
    rintro e w5 ⟨rfl, B5⟩
    have B6 := B.trans (B5.mono B.size)
    by_cases hif : i = f
    · have hd : decide (m.v = l) = true := by
        have h1 := List.findIdx_getElem (xs := ts) (p := fun u => decide (u.v = l)) (w := by have := HF.out; unfold firstOf at this; rw [← this]; exact hfl)
        have h2 : ts[ts.findIdx (fun u => decide (u.v = l))]? = some m := by have := HF.out; unfold firstOf at this; rw [← this, ← hif]; exact HX.out
        obtain ⟨h3, h4⟩ := List.getElem?_eq_some_iff.1 h2
        rw [h4] at h1
        exact h1
      subst hif
      rw [hd]
      clear hC c0 c1 c2 c3
      go_wp2
      go_ret
      exact ⟨rfl, B6⟩
    · have hd : decide (m.v = l) = false := by
        have h1 := List.not_of_lt_findIdx (xs := ts) (p := fun u => decide (u.v = l)) (i := i) (by have := HF.out; unfold firstOf at this; omega)
        obtain ⟨h3, h4⟩ := List.getElem?_eq_some_iff.1 HX.out
        rw [h4] at h1
        simpa using h1
      rw [hd]
      clear hC c0 c1 c2 c3
      go_wp2
      go_roundg (ts.length - (i + 1))
      case measure => omega
      case rel => exact ⟨i + 1, by go_num, by omega, Nat.le_refl _, B6⟩
set_option maxHeartbeats 4000000 in
set_option maxRecDepth 1000000 in
theorem sel1_any (x : RR) (b3 : Nat) (va : Value) (ts : List Tm) (w : World) (hx : RowOk w x) (h : IsTerms w va ts) (hb : w.cell? ⟨b3, 0, none⟩ = some va) :
    Calls Tryd.prog 90 #[rowV x, .pointer (some ⟨b3, 0, none⟩)] w fun e w' => e = .returned (.bool (matchL ts x.t)) ∧ Below w.heap.size w w' := by
  unfold rowV
  obtain ⟨pa, pc, rfl, hm⟩ := h.shape
  have BA := below_new w (.cells #[x.av, x.wv] 44)
  have X := Cel.new w 44 [x.av, x.wv]
  go_enter Tryd.func90, Tryd.ntmps90
  go_upto_region 1 with fail
  obtain ⟨wA, hwA⟩ : ∃ z, w.alloc (.cells #[x.av, x.wv] 44) = z := ⟨_, rfl⟩
  have X' : Cel wA w.heap.size 44 [x.av, x.wv] := by rw [← hwA]; exact X
  rw [hwA] at BA
  rw [hwA]
  clear hwA X
  have rA := hx.keep BA
  replace hb := cell_keep BA hb
  replace h := h.keep BA
  have q0 := X'.at_ (j := 0) rfl
  obtain ⟨nt, hnt⟩ : ∃ nt, x.t.length = nt := ⟨_, rfl⟩
  obtain ⟨xp, xc, hxv, hmv⟩ : ∃ xp xc, x.av = .slice xp nt xc ∧ nt ≤ 9223372036854775807 := by
    obtain ⟨a, c, e, _, hm⟩ := rA.vals
    exact ⟨a, c, by rw [e, hnt], by omega⟩
  rw [hxv] at q0 X'
  have HXV := Lib.hid hxv
  clear hxv
  by_cases hl : nt = ts.length
  · have hne : ((nt : Int) != (ts.length : Int)) = false := by rw [hl]; simp
    have HL := Lib.hid (hnt.trans hl)
    have HNT := Lib.hid hnt
    have HLE := Lib.hid hl
    have hl1 : nt ≤ ts.length := by omega
    have hl2 : ts.length ≤ nt := by omega
    clear hl hnt
    go_wp2
    go_loopg [15] ts.length (fun g vi wr => ∃ (i : Nat), vi = .int .i64 i ∧ i ≤ ts.length ∧ ts.length - i ≤ g ∧ Hid (∀ j, j < i → okAt ts x.t j = true) ∧ Below wA.heap.size wA wr)
    case atStart => exact ⟨0, rfl, Nat.zero_le _, Nat.le_refl _, Lib.hid (by omega), Below.refl _ _⟩
    case round =>
      obtain ⟨i, rfl, hi, hg, V, B⟩ := hrel
      by_cases hlt : i < ts.length
      · have hltz : (i : Int) < (ts.length : Int) := by omega
        obtain ⟨m, hx2⟩ := getElem_of_lt hlt
        obtain ⟨b, off, e, c0, c1, c2, c3⟩ := (h.keep B).at_ hx2
        cases e
        have q0r := cell_keep B q0
        have hbr := cell_keep B hb
        have hvr := rA.vals.keep B
        go_upto_region 6 with fail
        have BB := below_new wr (.cells #[strV m.v, .int .i64 m.c.t, .int .i64 m.c.n, strV m.c.s] 60)
        have Y := Cel.new wr 60 [strV m.v, .int .i64 m.c.t, .int .i64 m.c.n, strV m.c.s]
        obtain ⟨wB, hwB⟩ : ∃ z, wr.alloc (.cells #[strV m.v, .int .i64 m.c.t, .int .i64 m.c.n, strV m.c.s] 60) = z := ⟨_, rfl⟩
        have Y' : Cel wB wr.heap.size 60 [strV m.v, .int .i64 m.c.t, .int .i64 m.c.n, strV m.c.s] := by rw [← hwB]; exact Y
        rw [hwB] at BB
        rw [hwB]
        clear hwB Y c0 c1 c2 c3
        rw [HXV.out] at hvr
        have hin : (i : Int) < (nt : Int) := by omega
        obtain ⟨_, _, e, hrv, -⟩ := hvr
        injection e with e1 e2 e3
        subst e1 e3
        obtain ⟨y, hy⟩ := getElem_of_lt (l := x.t) (i := i) (by have := HL.out; omega)
        have hfi : firstOf ts m.v ≤ i := firstOf_le hx2
        obtain ⟨f, hf⟩ : ∃ f, firstOf ts m.v = f := ⟨_, rfl⟩
        rw [hf] at hfi
        obtain ⟨z, hz⟩ := getElem_of_lt (l := x.t) (i := f) (by have := HL.out; omega)
        obtain ⟨vb, vo, rfl, d0, d1, d2⟩ := vals_at hrv hy
        obtain ⟨_, _, e, g0, g1, g2⟩ := vals_at hrv hz
        cases e
        have OC := Lib.hid (fun hv : m.v = [] => okAt_const hx2 hy hv)
        have OV := Lib.hid (fun hv : m.v ≠ [] => okAt_var hx2 hy hv (by rw [hf]; exact hz))
        have MN := Lib.hid (fun h0 : okAt ts x.t i = false => match_not hlt h0)
        have HF := Lib.hid hf
        clear hy hz hx2 hf hrv e2
        replace d0 := cell_keep BB d0
        replace d1 := cell_keep BB d1
        replace d2 := cell_keep BB d2
        replace g0 := cell_keep BB g0
        replace g1 := cell_keep BB g1
        replace g2 := cell_keep BB g2
        replace q0r := cell_keep BB q0r
        replace hbr := cell_keep BB hbr
        have y0 := Y'.at_ (j := 0) rfl
        have y1 := Y'.at_ (j := 1) rfl
        have y2 := Y'.at_ (j := 2) rfl
        have y3 := Y'.at_ (j := 3) rfl
        have B2 := B.trans (BB.mono B.size)
        have hB2 := h.keep B2
        have hgd := run_guard_vl .neq
        obtain ⟨mv, mc, mok⟩ := m
        dsimp only at *
        cases mv with
        | nil =>
          obtain ⟨q, hq⟩ : ∃ q, (!decide (y = mc)) = q := ⟨_, rfl⟩
          have hqr : ∀ w, (binOp .neq 58 (.agg #[.int .i64 y.t, .int .i64 y.n, strV y.s]) (.agg #[.int .i64 mc.t, .int .i64 mc.n, strV mc.s])).run Tryd.prog w = .ok (.bool q) w := fun w => by rw [← hq]; exact run_neq_vl y mc w
          have HQ := Lib.hid (show okAt ts x.t i = !q by rw [OC.out rfl, ← hq]; simp)
          clear hq
          cases q with
          | true =>
            have a_d0 := AftB.cell d0
            have a_d1 := AftB.cell d1
            have a_d2 := AftB.cell d2
            have a_g0 := AftB.cell g0
            have a_g1 := AftB.cell g1
            have a_g2 := AftB.cell g2
            have a_q0r := AftB.cell q0r
            have a_hbr := AftB.cell hbr
            have a_y0 := AftB.cell y0
            have a_y1 := AftB.cell y1
            have a_y2 := AftB.cell y2
            have a_y3 := AftB.cell y3
            go_upto_region 6 with fail
            refine wp_region_aftB (by kernel_rfl) (by kernel_rfl) ?_
            repeat (quiet_step (fail))
            refine wpQuiet_nil ?_
            intro w5 B5
            clear a_d0 a_d1 a_d2 a_g0 a_g1 a_g2 a_q0r a_hbr a_y0 a_y1 a_y2 a_y3
            have RES := Lib.hid (MN.out (by rw [HQ.out]; rfl))
            clear d0 d1 d2 g0 g1 g2 q0r hbr y0 y1 y2 y3 hgd hqr
            go_wp2
            go_ret
            exact ⟨by rw [RES.out]; rfl, below_trans BA (B2.trans (B5.mono B2.size))⟩
          | false =>
            have a_d0 := AftB.cell d0
            have a_d1 := AftB.cell d1
            have a_d2 := AftB.cell d2
            have a_g0 := AftB.cell g0
            have a_g1 := AftB.cell g1
            have a_g2 := AftB.cell g2
            have a_q0r := AftB.cell q0r
            have a_hbr := AftB.cell hbr
            have a_y0 := AftB.cell y0
            have a_y1 := AftB.cell y1
            have a_y2 := AftB.cell y2
            have a_y3 := AftB.cell y3
            go_upto_region 6 with fail
            refine wp_region_aftB (by kernel_rfl) (by kernel_rfl) ?_
            repeat (quiet_step (fail))
            refine wpQuiet_nil ?_
            intro w5 B5
            clear a_d0 a_d1 a_d2 a_g0 a_g1 a_g2 a_q0r a_hbr a_y0 a_y1 a_y2 a_y3
            have OK := Lib.hid (show ∀ j, j < i + 1 → okAt ts x.t j = true from fun j hj => by
              rcases Nat.lt_or_eq_of_le (Nat.le_of_lt_succ hj) with hj | rfl
              · exact V.out j hj
              · rw [HQ.out]; rfl)
            replace hbr := cell_keep B5 hbr
            replace y0 := cell_keep B5 y0
            replace q0r := cell_keep B5 q0r
            go_wp2_with fail
            refine (indexTm_any _ ts wr.heap.size [] f _ (hB2.keep B5) y0 HF.out.symm (by omega)).mono ?_
            rintro e w6 ⟨rfl, B6⟩
            replace y0 := cell_keep B6 y0
            have B7 := B2.trans ((below_trans B5 B6).mono B2.size)
            clear d0 d1 d2 g0 g1 g2 hgd hqr y1 y2 y3 hbr q0r
            go_upto_region 9 with fail
            go_region
            have B8 : Below w6.heap.size w6 w6.drew := (Below.refl _ _).drew
            generalize World.drew _ = w8 at B8 ⊢
            clear y0
            go_wp2
            go_roundg (ts.length - (i + 1))
            case measure => omega
            case rel => exact ⟨i + 1, by go_num, hlt, Nat.le_refl _, OK, B7.trans (B8.mono B7.size)⟩
        | cons c0 cs =>
          obtain ⟨q, hq⟩ : ∃ q, (!decide (z = y)) = q := ⟨_, rfl⟩
          have hqr : ∀ w, (binOp .neq 58 (.agg #[.int .i64 z.t, .int .i64 z.n, strV z.s]) (.agg #[.int .i64 y.t, .int .i64 y.n, strV y.s])).run Tryd.prog w = .ok (.bool q) w := fun w => by rw [← hq]; exact run_neq_vl z y w
          have HQ := Lib.hid (show okAt ts x.t i = !q by rw [OV.out (by simp), ← hq]; simp)
          clear hq
          go_upto_region 6 with fail
          go_region
          have B5 : Below wB.heap.size wB wB.drew := (Below.refl _ _).drew
          generalize World.drew _ = w5 at B5 ⊢
          replace hbr := cell_keep B5 hbr
          replace y0 := cell_keep B5 y0
          replace q0r := cell_keep B5 q0r
          go_wp2_with fail
          refine (indexTm_any _ ts wr.heap.size (c0 :: cs) f _ (hB2.keep B5) y0 HF.out.symm (by omega)).mono ?_
          rintro e w6 ⟨rfl, B6⟩
          have B56 := below_trans B5 B6
          replace y0 := cell_keep B6 y0
          replace q0r := cell_keep B6 q0r
          replace d0 := cell_keep B56 d0
          replace d1 := cell_keep B56 d1
          replace d2 := cell_keep B56 d2
          replace g0 := cell_keep B56 g0
          replace g1 := cell_keep B56 g1
          replace g2 := cell_keep B56 g2
          have B7 := B2.trans (B56.mono B2.size)
          clear y1 y2 y3 hbr
          have a_d0 := AftB.cell d0
          have a_d1 := AftB.cell d1
          have a_d2 := AftB.cell d2
          have a_g0 := AftB.cell g0
          have a_g1 := AftB.cell g1
          have a_g2 := AftB.cell g2
          have a_q0r := AftB.cell q0r
          have a_y0 := AftB.cell y0
          have f1 : (f : Int) < (nt : Int) := by omega
          have f2 : (i : Int) < (nt : Int) := by omega
          go_upto_region 9 with fail
          refine wp_region_aftB (by kernel_rfl) (by kernel_rfl) ?_
          repeat (quiet_step (fail))
          refine wpQuiet_nil ?_
          intro w8 B8
          clear a_d0 a_d1 a_d2 a_g0 a_g1 a_g2 a_q0r a_y0 d0 d1 d2 g0 g1 g2 q0r y0 hgd hqr
          cases q
          · have OK := Lib.hid (show ∀ j, j < i + 1 → okAt ts x.t j = true from fun j hj => by
              rcases Nat.lt_or_eq_of_le (Nat.le_of_lt_succ hj) with hj | rfl
              · exact V.out j hj
              · rw [HQ.out]; rfl)
            go_wp2
            go_roundg (ts.length - (i + 1))
            case measure => omega
            case rel => exact ⟨i + 1, by go_num, hlt, Nat.le_refl _, OK, B7.trans (B8.mono B7.size)⟩
          · have RES := Lib.hid (MN.out (by rw [HQ.out]; rfl))
            go_wp2
            go_ret
            exact ⟨by rw [RES.out]; rfl, below_trans BA (B7.trans (B8.mono B7.size))⟩
      · have hltz : ¬ (i : Int) < (ts.length : Int) := by omega
        have RES := Lib.hid (match_all HL.out fun j hj => V.out j (by omega))
        go_wp2
        go_ret
        exact ⟨by rw [RES.out]; rfl, below_trans BA B⟩
  · have hne : ((nt : Int) != (ts.length : Int)) = true := by rw [bne_iff_ne]; omega
    have RES := Lib.hid (show matchL ts x.t = false by unfold matchL; rw [hnt, decide_eq_false hl, Bool.false_and])
    clear hnt
    go_wp2
    go_ret
    exact ⟨by rw [RES.out]; rfl, BA⟩
theorem Sml.filter {n : Nat} {xs : List RR} (h : Sml n xs) (P : RR → Bool) : Sml n (xs.filter P) := ⟨Nat.le_trans (List.length_filter_le _ _) h.len, fun x hx => h.each x (List.mem_filter.1 hx).1⟩
theorem SelectR_any (va vt : Value) (xs : List RR) (ts : List Tm) (w : World) (hT : Tab w) (ha : IsRel w va xs) (ht : IsTerms w vt ts) (sa : Sml 10000 xs) :
    Calls Tryd.prog 39 #[va, vt] w fun e w' => ∃ u, e = .returned u ∧ ∃ zs, IsRelF w' w.heap.size u zs ∧ CanOf (xs.filter fun x => matchL ts x.t) zs ∧ Below w.heap.size w w' := by
  obtain ⟨pt, pc, rfl, -⟩ := ht.shape
  have B1 := below_new w (.cells #[.slice pt ts.length pc] 39)
  have X := Cel.new w 39 [.slice pt ts.length pc]
  go_enter Tryd.func39, Tryd.ntmps39
  go_upto_region 1 with fail
  obtain ⟨w1, hw1⟩ : ∃ z, w.alloc (.cells #[.slice pt ts.length pc] 39) = z := ⟨_, rfl⟩
  have X' : Cel w1 w.heap.size 39 [.slice pt ts.length pc] := by rw [← hw1]; exact X
  rw [hw1] at B1
  rw [hw1]
  clear hw1 X
  obtain ⟨b3, hb3⟩ : ∃ b3, w.heap.size = b3 := ⟨_, rfl⟩
  rw [hb3] at X'
  rw [hb3]
  have HB3 := Lib.hid hb3
  clear hb3
  have ha1 := ha.keep B1
  have ht1 := ht.keep B1
  have hT1 := hT.keep B1
  have hxl := sa.len
  go_wp2_with fail
  refine (filter_any 90 ⟨b3, 0, none⟩ (fun x => matchL ts x.t) _ xs _ (enters_of Tryd.func90 (by kernel_rfl) rfl) (fun W hW x hx => sel1_any x b3 _ ts W ((ha1.2 x hx).keep hW) (ht1.keep hW) (cell_keep hW (X'.at_ (j := 0) rfl))) ha1 (by omega)).mono ?_
  rintro e w2 ⟨uf, rfl, R2, B2⟩
  have SF := sa.filter (fun x => matchL ts x.t)
  obtain ⟨L, hL⟩ : ∃ L, xs.filter (fun x => matchL ts x.t) = L := ⟨_, rfl⟩
  rw [hL] at SF R2
  have HL := Lib.hid hL
  clear hL
  go_wp2_with fail
  refine (canonical_any _ L _ (hT1.keep B2) R2 SF).mono ?_
  rintro e w3 ⟨uc, rfl, zs, h1, h2, B3⟩
  have B12 := below_trans B1 B2
  go_wp2
  go_ret
  exact ⟨uc, rfl, zs, h1.mono (by have := B12.size; have := HB3.out; omega), by rw [HL.out]; exact h2, below_trans B12 B3⟩
end Go.Proofs.YtdibijhaiaiifaaDoor
/- Slices of numbers. -/
namespace Go.Proofs.YtdibijhaiaiifaaDoor
open Go.RowKit
def encI (n : Int) : List Value := [.int .i64 n]
theorem encsI : Encs 1 encI := ⟨fun _ => rfl, fun x u hu => by unfold encI at hu; simp at hu; subst hu; rfl⟩
def IsInts (w : World) (v : Value) (l : List Int) : Prop := IsRows 1 encI w v l
theorem IsInts.keep {w w' : World} {v : Value} {l : List Int} (h : IsInts w v l) (hb : Below w.heap.size w w') : IsInts w' v l := IsRows.keep h (keeps_below hb)
theorem IsInts.at_ {w : World} {a : Option Addr} {n c : Nat} {l : List Int} (h : IsInts w (.slice a n c) l) {i : Nat} {x : Int} (hi : l[i]? = some x) : ∃ b off, a = some ⟨b, off, none⟩ ∧ w.cell? ⟨b, off + i, none⟩ = some (.int .i64 x) := by
  obtain ⟨a', c', e, hr, hm⟩ := h
  injection e with e1 e2 e3
  subst e1
  exact hr.one hi rfl
end Go.Proofs.YtdibijhaiaiifaaDoor
/- The walks of the reference's Same, SameTuples, Few. -/
namespace Go.Proofs.YtdibijhaiaiifaaDoor
open Go.RowKit
theorem rCmp_aftB {W : World} {va vb : Value} {a b : Tp} {z : Int} (ha : IsVals W va a) (hb : IsVals W vb b) (hz : cmpT a b = z) (p : AftB W) : Calls Tryd.prog 42 #[va, vb] p.w' fun e w'' => e = .returned (.int .i64 z) ∧ ∃ q : AftB W, w'' = q.w' := by
  subst hz
  exact AftB.call ((rCompareTuple_any va vb a b p.w' (ha.keep p.ok) (hb.keep p.ok)).mono fun _ _ ⟨h, g⟩ => ⟨h, g.below⟩)
theorem iSame_aftB {W : World} {va vb : Value} {a b : List Sp} {c : Bool} (ha : IsSpans W va a) (hb : IsSpans W vb b) (hc : decide (a = b) = c) (p : AftB W) : Calls Tryd.prog 21 #[va, vb] p.w' fun e w'' => e = .returned (.bool c) ∧ ∃ q : AftB W, w'' = q.w' := by
  subst hc
  exact AftB.call (Same_any va vb a b p.w' (ha.keep p.ok) (hb.keep p.ok))
theorem rows_at {xs : List RR} {i : Nat} {x : RR} (h : xs[i]? = some x) : (rows xs)[i]? = some x.rw := by unfold rows; rw [List.getElem?_map, h]; rfl
theorem take_rows {xs ys : List RR} {i : Nat} {x y : RR} (h : (rows xs).take i = (rows ys).take i) (hx : xs[i]? = some x) (hy : ys[i]? = some y) (e : x.rw = y.rw) : (rows xs).take (i + 1) = (rows ys).take (i + 1) := by
  rw [take_succ' (rows_at hx), take_succ' (rows_at hy), h, e]
theorem rows_ne {xs ys : List RR} {i : Nat} {x y : RR} (hx : xs[i]? = some x) (hy : ys[i]? = some y) (e : ¬ x.rw = y.rw) : ¬ rows xs = rows ys := fun h => e (by
  have h1 := rows_at hx
  rw [h, rows_at hy] at h1
  exact (Option.some.inj h1).symm)
set_option maxHeartbeats 4000000 in
set_option maxRecDepth 1000000 in
theorem rSameR_any (va vb : Value) (xs ys : List RR) (w : World) (ha : IsRel w va xs) (hb : IsRel w vb ys) : Calls Tryd.prog 24 #[va, vb] w fun e w' => e = .returned (.bool (decide (rows xs = rows ys))) ∧ Below w.heap.size w w' := by
  obtain ⟨r, hr⟩ : ∃ r, decide (rows xs = rows ys) = r := ⟨_, rfl⟩
  rw [hr]
  have HR := Lib.hid hr
  clear hr
  obtain ⟨pa, ca, rfl, hma⟩ := ha.shape
  obtain ⟨pb, cb, rfl, hmb⟩ := hb.shape
  obtain ⟨n, hn⟩ : ∃ n, xs.length = n := ⟨_, rfl⟩
  obtain ⟨m, hm⟩ : ∃ m, ys.length = m := ⟨_, rfl⟩
  rw [hn] at ha hma
  rw [hm] at hb hmb
  rw [hn, hm]
  have HN := Lib.hid hn
  have HM := Lib.hid hm
  clear hn hm
  by_cases hl : n = m
  · subst hl
    have z0 : ((n : Int) != (n : Int)) = false := by simp
    go_enter Tryd.func24, Tryd.ntmps24
    go_wp2
    go_loopg [5] n (fun g vi wr => ∃ i : Nat, vi = .int .i64 i ∧ i ≤ n ∧ n - i ≤ g ∧ Hid ((rows xs).take i = (rows ys).take i) ∧ Below w.heap.size w wr)
    case atStart => exact ⟨0, rfl, Nat.zero_le _, Nat.le_refl _, Lib.hid rfl, Below.refl _ _⟩
    case round =>
      obtain ⟨i, rfl, hi, hg, V, B⟩ := hrel
      by_cases hlt : i < n
      · have hltz : (i : Int) < (n : Int) := by omega
        obtain ⟨x, hx⟩ := getElem_of_lt (l := xs) (i := i) (by have := HN.out; omega)
        obtain ⟨y, hy⟩ := getElem_of_lt (l := ys) (i := i) (by have := HM.out; omega)
        obtain ⟨b1, o1, e, c0, c1, rx⟩ := (ha.keep B).at_ hx
        cases e
        obtain ⟨b2, o2, e, d0, d1, ry⟩ := (hb.keep B).at_ hy
        cases e
        have VS := Lib.hid (fun e => take_rows V.out hx hy e)
        have VN := Lib.hid (fun e => (show r = false by rw [← HR.out]; exact decide_eq_false (rows_ne hx hy e)))
        clear hx hy
        obtain ⟨z, hz⟩ : ∃ z, cmpT x.t y.t = z := ⟨_, rfl⟩
        have a0 := AftB.cell c0
        have a1 := AftB.cell c1
        have a2 := AftB.cell d0
        have a3 := AftB.cell d1
        have rxv := rx.vals
        have ryv := ry.vals
        have rxs := rx.spans
        have rys := ry.spans
        clear c0 c1 d0 d1 rx ry
        have HZ := Lib.hid hz
        clear hz
        by_cases hz0 : z = 0
        · have ET := Lib.hid (show x.t = y.t from (cmpT_is.eq _ _).1 (HZ.out.trans hz0))
          have z1 : (z != 0) = false := by rw [hz0]; rfl
          clear hz0
          cases hs : decide (x.s = y.s)
          · have RES := Lib.hid (VN.out fun e => by have := congrArg Prod.snd e; exact absurd this (of_decide_eq_false hs))
            clear VN VS
            go_upto_region 6 with fail
            refine wp_region_aftB (by kernel_rfl) (by kernel_rfl) ?_
            repeat (go_big_quiet_step ((first | exact rCmp_aftB rxv ryv HZ.out _ | exact iSame_aftB rxs rys hs _)))
            refine wpQuiet_nil ?_
            intro w5 B5
            clear a0 a1 a2 a3
            go_wp2
            go_ret
            exact ⟨by rw [RES.out]; rfl, B.trans (B5.mono B.size)⟩
          · have VS2 := Lib.hid (VS.out (Prod.ext ET.out (of_decide_eq_true hs)))
            clear VN VS
            go_upto_region 6 with fail
            refine wp_region_aftB (by kernel_rfl) (by kernel_rfl) ?_
            repeat (go_big_quiet_step ((first | exact rCmp_aftB rxv ryv HZ.out _ | exact iSame_aftB rxs rys hs _)))
            refine wpQuiet_nil ?_
            intro w5 B5
            clear a0 a1 a2 a3
            go_wp2
            go_roundg (n - (i + 1))
            case measure => omega
            case rel => exact ⟨i + 1, by go_num, hlt, Nat.le_refl _, VS2, B.trans (B5.mono B.size)⟩
        · have RES := Lib.hid (VN.out fun e => hz0 (by rw [← HZ.out]; exact (cmpT_is.eq _ _).2 (congrArg Prod.fst e)))
          have z1 : (z != 0) = true := by rw [bne_iff_ne]; exact hz0
          clear VN VS hz0
          go_upto_region 6 with fail
          refine wp_region_aftB (by kernel_rfl) (by kernel_rfl) ?_
          repeat (go_big_quiet_step ((exact rCmp_aftB rxv ryv HZ.out _)))
          refine wpQuiet_nil ?_
          intro w5 B5
          clear a0 a1 a2 a3
          go_wp2
          go_ret
          exact ⟨by rw [RES.out]; rfl, B.trans (B5.mono B.size)⟩
      · have hltz : ¬ (i : Int) < (n : Int) := by omega
        have RES := Lib.hid (show r = true by
          rw [← HR.out]
          have h1 := V.out
          rw [List.take_of_length_le (by rw [rows_length, HN.out]; omega), List.take_of_length_le (by rw [rows_length, HM.out]; omega)] at h1
          exact decide_eq_true h1)
        go_wp2
        go_ret
        exact ⟨by rw [RES.out]; rfl, B⟩
  · have z0 : ((n : Int) != (m : Int)) = true := by rw [bne_iff_ne]; omega
    have RES := Lib.hid (show r = false by
      rw [← HR.out]
      exact decide_eq_false fun e => hl (by have := congrArg List.length e; rwa [rows_length, rows_length, HN.out, HM.out] at this))
    clear hl
    go_enter Tryd.func24, Tryd.ntmps24
    go_wp2
    go_ret
    exact ⟨by rw [RES.out]; rfl, Below.refl _ _⟩
def tups (l : List TT) : List Tp := l.map (·.t)
theorem tups_at {xs : List TT} {i : Nat} {x : TT} (h : xs[i]? = some x) : (tups xs)[i]? = some x.t := by unfold tups; rw [List.getElem?_map, h]; rfl
theorem take_tups {xs ys : List TT} {i : Nat} {x y : TT} (h : (tups xs).take i = (tups ys).take i) (hx : xs[i]? = some x) (hy : ys[i]? = some y) (e : x.t = y.t) : (tups xs).take (i + 1) = (tups ys).take (i + 1) := by
  rw [take_succ' (tups_at hx), take_succ' (tups_at hy), h, e]
theorem tups_ne {xs ys : List TT} {i : Nat} {x y : TT} (hx : xs[i]? = some x) (hy : ys[i]? = some y) (e : ¬ x.t = y.t) : ¬ tups xs = tups ys := fun h => e (by
  have h1 := tups_at hx
  rw [h, tups_at hy] at h1
  exact (Option.some.inj h1).symm)
theorem tups_length (a : List TT) : (tups a).length = a.length := by simp [tups]
set_option maxHeartbeats 4000000 in
set_option maxRecDepth 1000000 in
theorem rSameT_any (va vb : Value) (xs ys : List TT) (w : World) (ha : IsTups w va xs) (hb : IsTups w vb ys) : Calls Tryd.prog 35 #[va, vb] w fun e w' => e = .returned (.bool (decide (tups xs = tups ys))) ∧ Below w.heap.size w w' := by
  obtain ⟨r, hr⟩ : ∃ r, decide (tups xs = tups ys) = r := ⟨_, rfl⟩
  rw [hr]
  have HR := Lib.hid hr
  clear hr
  obtain ⟨pa, ca, rfl, hma⟩ := ha.shape
  obtain ⟨pb, cb, rfl, hmb⟩ := hb.shape
  obtain ⟨n, hn⟩ : ∃ n, xs.length = n := ⟨_, rfl⟩
  obtain ⟨m, hm⟩ : ∃ m, ys.length = m := ⟨_, rfl⟩
  rw [hn] at ha hma
  rw [hm] at hb hmb
  rw [hn, hm]
  have HN := Lib.hid hn
  have HM := Lib.hid hm
  clear hn hm
  by_cases hl : n = m
  · subst hl
    have z0 : ((n : Int) != (n : Int)) = false := by simp
    go_enter Tryd.func35, Tryd.ntmps35
    go_wp2
    go_loopg [5] n (fun g vi wr => ∃ i : Nat, vi = .int .i64 i ∧ i ≤ n ∧ n - i ≤ g ∧ Hid ((tups xs).take i = (tups ys).take i) ∧ Below w.heap.size w wr)
    case atStart => exact ⟨0, rfl, Nat.zero_le _, Nat.le_refl _, Lib.hid rfl, Below.refl _ _⟩
    case round =>
      obtain ⟨i, rfl, hi, hg, V, B⟩ := hrel
      by_cases hlt : i < n
      · have hltz : (i : Int) < (n : Int) := by omega
        obtain ⟨x, hx⟩ := getElem_of_lt (l := xs) (i := i) (by have := HN.out; omega)
        obtain ⟨y, hy⟩ := getElem_of_lt (l := ys) (i := i) (by have := HM.out; omega)
        obtain ⟨b1, o1, e, c0, rx⟩ := (ha.keep B).at_ hx
        cases e
        obtain ⟨b2, o2, e, d0, ry⟩ := (hb.keep B).at_ hy
        cases e
        have VS := Lib.hid (fun e => take_tups V.out hx hy e)
        have VN := Lib.hid (fun e => (show r = false by rw [← HR.out]; exact decide_eq_false (tups_ne hx hy e)))
        clear hx hy
        obtain ⟨z, hz⟩ : ∃ z, cmpT x.t y.t = z := ⟨_, rfl⟩
        have a0 := AftB.cell c0
        have a2 := AftB.cell d0
        have HZ := Lib.hid hz
        clear hz c0 d0
        by_cases hz0 : z = 0
        · have VS2 := Lib.hid (VS.out ((cmpT_is.eq _ _).1 (HZ.out.trans hz0)))
          have z1 : (z != 0) = false := by rw [hz0]; rfl
          clear VN VS hz0
          go_upto_region 6 with fail
          refine wp_region_aftB (by kernel_rfl) (by kernel_rfl) ?_
          repeat (go_big_quiet_step ((exact rCmp_aftB rx ry HZ.out _)))
          refine wpQuiet_nil ?_
          intro w5 B5
          clear a0 a2
          go_wp2
          go_roundg (n - (i + 1))
          case measure => omega
          case rel => exact ⟨i + 1, by go_num, hlt, Nat.le_refl _, VS2, B.trans (B5.mono B.size)⟩
        · have RES := Lib.hid (VN.out fun e => hz0 (by rw [← HZ.out]; exact (cmpT_is.eq _ _).2 e))
          have z1 : (z != 0) = true := by rw [bne_iff_ne]; exact hz0
          clear VN VS hz0
          go_upto_region 6 with fail
          refine wp_region_aftB (by kernel_rfl) (by kernel_rfl) ?_
          repeat (go_big_quiet_step ((exact rCmp_aftB rx ry HZ.out _)))
          refine wpQuiet_nil ?_
          intro w5 B5
          clear a0 a2
          go_wp2
          go_ret
          exact ⟨by rw [RES.out]; rfl, B.trans (B5.mono B.size)⟩
      · have hltz : ¬ (i : Int) < (n : Int) := by omega
        have RES := Lib.hid (show r = true by
          rw [← HR.out]
          have h1 := V.out
          rw [List.take_of_length_le (by rw [tups_length, HN.out]; omega), List.take_of_length_le (by rw [tups_length, HM.out]; omega)] at h1
          exact decide_eq_true h1)
        go_wp2
        go_ret
        exact ⟨by rw [RES.out]; rfl, B⟩
  · have z0 : ((n : Int) != (m : Int)) = true := by rw [bne_iff_ne]; omega
    have RES := Lib.hid (show r = false by
      rw [← HR.out]
      exact decide_eq_false fun e => hl (by have := congrArg List.length e; rwa [tups_length, tups_length, HN.out, HM.out] at this))
    clear hl
    go_enter Tryd.func35, Tryd.ntmps35
    go_wp2
    go_ret
    exact ⟨by rw [RES.out]; rfl, Below.refl _ _⟩
/-- At most 40 rows of at most 6 values and 20 spans. -/
def fewR (xs : List RR) : Bool := decide (xs.length ≤ 40) && xs.all fun x => decide (x.t.length ≤ 6) && decide (x.s.length ≤ 20)
theorem fewR_sml {xs : List RR} (h : fewR xs = true) : Sml 40 xs := by
  unfold fewR at h
  rw [Bool.and_eq_true, decide_eq_true_iff, List.all_eq_true] at h
  refine ⟨h.1, fun x hx => ?_⟩
  have := h.2 x hx
  rw [Bool.and_eq_true, decide_eq_true_iff, decide_eq_true_iff] at this
  omega
theorem few_no {xs : List RR} {i : Nat} {x : RR} (hx : xs[i]? = some x) (h : ¬ (x.t.length ≤ 6 ∧ x.s.length ≤ 20)) : fewR xs = false := by
  unfold fewR
  rw [Bool.and_eq_false_iff]
  refine .inr ?_
  rw [List.all_eq_false]
  refine ⟨x, List.mem_of_getElem? hx, ?_⟩
  rw [Bool.and_eq_true, decide_eq_true_iff, decide_eq_true_iff]
  exact h
set_option maxHeartbeats 4000000 in
set_option maxRecDepth 1000000 in
theorem fewR_any (va : Value) (xs : List RR) (w : World) (ha : IsRel w va xs) : Calls Tryd.prog 38 #[va] w fun e w' => e = .returned (.bool (fewR xs)) ∧ Below w.heap.size w w' := by
  obtain ⟨r, hr⟩ : ∃ r, fewR xs = r := ⟨_, rfl⟩
  rw [hr]
  have HR := Lib.hid hr
  clear hr
  obtain ⟨pa, ca, rfl, hma⟩ := ha.shape
  by_cases h40 : xs.length ≤ 40
  · have z0 : ¬ (40 : Int) < (xs.length : Int) := by omega
    go_enter Tryd.func38, Tryd.ntmps38
    go_wp2
    go_loopg [3] xs.length (fun g vi wr => ∃ i : Nat, w = wr ∧ vi = .int .i64 i ∧ i ≤ xs.length ∧ xs.length - i ≤ g ∧ Hid ((xs.take i).all (fun x => decide (x.t.length ≤ 6) && decide (x.s.length ≤ 20)) = true))
    case atStart => exact ⟨0, rfl, rfl, Nat.zero_le _, Nat.le_refl _, Lib.hid rfl⟩
    case round =>
      obtain ⟨i, rfl, rfl, hi, hg, V⟩ := hrel
      by_cases hlt : i < xs.length
      · have hltz : (i : Int) < (xs.length : Int) := by omega
        obtain ⟨x, hx⟩ := getElem_of_lt hlt
        obtain ⟨b1, o1, e, c0, c1, rx⟩ := ha.at_ hx
        cases e
        have VN := Lib.hid (fun h => HR.out.symm.trans (few_no hx h))
        have VS := Lib.hid (fun h => (show (xs.take (i + 1)).all (fun x => decide (x.t.length ≤ 6) && decide (x.s.length ≤ 20)) = true by
          rw [take_succ' hx, List.all_append, V.out, List.all_cons, List.all_nil, Bool.true_and, Bool.and_true]; exact h))
        clear hx
        by_cases h6 : x.t.length ≤ 6
        · have z1 : ¬ (6 : Int) < ((List.length x.t : Nat) : Int) := by omega
          by_cases h20 : x.s.length ≤ 20
          · have z2 : ¬ (20 : Int) < (x.s.length : Int) := by omega
            have VS2 := Lib.hid (VS.out (by rw [decide_eq_true h6, decide_eq_true h20]; rfl))
            clear VN VS rx
            go_wp2
            go_roundg (xs.length - (i + 1))
            case measure => omega
            case rel => exact ⟨i + 1, rfl, by go_num, hlt, Nat.le_refl _, VS2⟩
          · have z2 : (20 : Int) < (x.s.length : Int) := by omega
            have RES := Lib.hid (VN.out fun h => h20 h.2)
            clear VN VS rx
            go_wp2
            go_ret
            exact ⟨by rw [RES.out]; rfl, Below.refl _ _⟩
        · have z1 : (6 : Int) < ((List.length x.t : Nat) : Int) := by omega
          have RES := Lib.hid (VN.out fun h => h6 h.1)
          clear VN VS rx
          go_wp2
          go_ret
          exact ⟨by rw [RES.out]; rfl, Below.refl _ _⟩
      · have hltz : ¬ (i : Int) < (xs.length : Int) := by omega
        have RES := Lib.hid (show r = true by
          rw [← HR.out]; unfold fewR
          have := V.out
          rw [List.take_of_length_le (by omega)] at this
          rw [decide_eq_true h40, this]; rfl)
        go_wp2
        go_ret
        exact ⟨by rw [RES.out]; rfl, Below.refl _ _⟩
  · have z0 : (40 : Int) < (xs.length : Int) := by omega
    have RES := Lib.hid (show r = false by rw [← HR.out]; unfold fewR; rw [decide_eq_false h40]; rfl)
    go_enter Tryd.func38, Tryd.ntmps38
    go_wp2
    go_ret
    exact ⟨by rw [RES.out]; rfl, Below.refl _ _⟩
end Go.Proofs.YtdibijhaiaiifaaDoor
/- The walks of the small functions of the laws: Int, Sym, pair, row. -/
namespace Go.Proofs.YtdibijhaiaiifaaDoor
open Go.RowKit
def intVl (n : Int) : Vl := ⟨1, n, [], by simp⟩
def symVl (l : List UInt8) (h : l.length ≤ 9223372036854775807) : Vl := ⟨2, 0, l, h⟩
theorem Int_any (n : Int) (w : World) : Calls Tryd.prog 71 #[.int .i64 n] w fun e w' => e = .returned (.agg #[.int .i64 1, .int .i64 n, strV []]) ∧ Below w.heap.size w w' := by
  have X := Cel.new w 58 [.int .i64 1, .int .i64 n, strV []]
  have c0 := X.at_ (j := 0) rfl
  have c1 := X.at_ (j := 1) rfl
  have c2 := X.at_ (j := 2) rfl
  have B := below_new w (.cells #[.int .i64 1, .int .i64 n, strV []] 58)
  go_enter Tryd.func71, Tryd.ntmps71
  go_wp2
  refine bodyPost_ret (v := .agg #[.int .i64 1, .int .i64 n, strV []]) (by simp [results, Tryd.results71, go_sem, c0, c1, c2]) rfl ?_
  exact ⟨rfl, B⟩
theorem Sym_any (l : List UInt8) (w : World) : Calls Tryd.prog 99 #[strV l] w fun e w' => e = .returned (.agg #[.int .i64 2, .int .i64 0, strV l]) ∧ Below w.heap.size w w' := by
  have X := Cel.new w 58 [.int .i64 2, .int .i64 0, strV l]
  have c0 := X.at_ (j := 0) rfl
  have c1 := X.at_ (j := 1) rfl
  have c2 := X.at_ (j := 2) rfl
  have B := below_new w (.cells #[.int .i64 2, .int .i64 0, strV l] 58)
  go_enter Tryd.func99, Tryd.ntmps99
  go_wp2
  refine bodyPost_ret (v := .agg #[.int .i64 2, .int .i64 0, strV l]) (by simp [results, Tryd.results99, go_sem, c0, c1, c2]) rfl ?_
  exact ⟨rfl, B⟩
def pairT (l : List UInt8) (h : l.length ≤ 9223372036854775807) (n : Int) : Tp := [symVl l h, intVl n]
theorem pair_any (l : List UInt8) (hl : l.length ≤ 9223372036854775807) (n : Int) (w : World) : Calls Tryd.prog 70 #[strV l, .int .i64 n] w fun e w' => ∃ u, e = .returned u ∧ IsVals w' u (pairT l hl n) ∧ Fresh w.heap.size u ∧ Below w.heap.size w w' := by
  go_enter Tryd.func70, Tryd.ntmps70
  go_wp2_with fail
  refine (Sym_any l _).mono ?_
  rintro e w1 ⟨rfl, B1⟩
  go_wp2_with fail
  refine (Int_any n _).mono ?_
  rintro e w2 ⟨rfl, B2⟩
  have hm : IsVals (w2.alloc (.cells #[.int .i64 2, .int .i64 0, strV l, .int .i64 1, .int .i64 n, strV []] 58)) (.slice (some ⟨w2.heap.size, 0, none⟩) 2 2) (pairT l hl n) := IsRows.lit w2 (pairT l hl n) encsV (by simp [pairT])
  have B3 := below_new w2 (.cells #[.int .i64 2, .int .i64 0, strV l, .int .i64 1, .int .i64 n, strV []] 58)
  go_wp2
  go_ret
  exact ⟨_, rfl, hm, fun b hb => by have h1 := B1.size; have h2 := B2.size; simp [Value.ownBlock] at hb; omega, below_trans B1 (below_trans B2 B3)⟩
theorem row_any (l : List UInt8) (hl : l.length ≤ 9223372036854775807) (n f t : Int) (w : World) : Calls Tryd.prog 69 #[strV l, .int .i64 n, .int .i64 f, .int .i64 t] w fun e w' => ∃ r : RR, e = .returned (rowV r) ∧ RowOk w' r ∧ r.rw = (pairT l hl n, [(f, t)]) ∧ Below w.heap.size w w' := by
  have B0 := below_new w (.cells #[.slice none 0 0, .slice none 0 0] 44)
  have X0 := Cel.new w 44 [.slice none 0 0, .slice none 0 0]
  go_enter Tryd.func69, Tryd.ntmps69
  go_upto_region 1 with fail
  obtain ⟨w1, hw1⟩ : ∃ z, w.alloc (.cells #[.slice none 0 0, .slice none 0 0] 44) = z := ⟨_, rfl⟩
  have X1 : Cel w1 w.heap.size 44 [.slice none 0 0, .slice none 0 0] := by rw [← hw1]; exact X0
  rw [hw1] at B0
  rw [hw1]
  clear hw1 X0
  go_wp2_with fail
  refine (pair_any l hl n _).mono ?_
  rintro e w2 ⟨u, rfl, hu, hfr, B2⟩
  obtain ⟨pu, cu, rfl, hu'⟩ := hu
  have hv : IsVals w2 (.slice pu (pairT l hl n).length cu) (pairT l hl n) := ⟨pu, cu, rfl, hu'⟩
  have hs := IsRows.lit (e := 86) w2 [(f, t)] encsS (by simp)
  have B3 := below_new w2 (.cells #[.int .i64 f, .int .i64 t] 86)
  have X3 := (X1.keep B2).keep B3
  have c0 := X3.at_ (j := 0) rfl
  have c1 := X3.at_ (j := 1) rfl
  have f0 := X3.free 0
  have f1 := X3.free 1
  obtain ⟨q, hq⟩ : ∃ q : RR, q = ⟨pu, cu, pairT l hl n, some ⟨w2.heap.size, 0, none⟩, 1, [(f, t)]⟩ := ⟨_, rfl⟩
  have RQ : RowOk (w2.alloc (.cells #[.int .i64 f, .int .i64 t] 86)) q := by rw [hq]; exact ⟨hv.keep B3, IsSpans.of_rows hs⟩
  have X4 := (X3.set 0 (.slice pu (pairT l hl n).length cu)).set 1 (.slice (some ⟨w2.heap.size, 0, none⟩) 1 1)
  have A4 : Agree (fun k => k = w.heap.size) (w2.alloc (.cells #[.int .i64 f, .int .i64 t] 86)) (((w2.alloc (.cells #[.int .i64 f, .int .i64 t] 86)).setCell ⟨w.heap.size, 0, none⟩ (.slice pu (pairT l hl n).length cu)).setCell ⟨w.heap.size, 1, none⟩ (.slice (some ⟨w2.heap.size, 0, none⟩) 1 1)) :=
    Agree.setCell (p := ⟨w.heap.size, 1, none⟩) (Agree.setCell (p := ⟨w.heap.size, 0, none⟩) (Agree.refl (fun k => k = w.heap.size) _) (.inl rfl) _) (.inl rfl) _
  have hlt := X1.lt
  have hs2 := B2.size
  have R4 := (show RowOk _ q from ⟨IsRows.agree RQ.1 A4 fun b hb e => by
      rw [hq] at hb; have := hfr b hb; omega, RQ.2.agree A4 fun b hb e => by rw [hq] at hb; simp [Value.ownBlock] at hb; omega⟩)
  have B4 : Below w.heap.size w (((w2.alloc (.cells #[.int .i64 f, .int .i64 t] 86)).setCell ⟨w.heap.size, 0, none⟩ (.slice pu (pairT l hl n).length cu)).setCell ⟨w.heap.size, 1, none⟩ (.slice (some ⟨w2.heap.size, 0, none⟩) 1 1)) :=
    (below_trans B0 (below_trans B2 B3)).trans (A4.below (by have := B3.size; have := (below_trans B0 B2).size; omega) fun k hk => by omega)
  have d0 := X4.at_ (j := 0) rfl
  have d1 := X4.at_ (j := 1) rfl
  go_wp2
  refine bodyPost_ret (v := .agg #[.slice pu (pairT l hl n).length cu, .slice (some ⟨w2.heap.size, 0, none⟩) 1 1]) (by simp [results, Tryd.results69, go_sem, d0, d1]) rfl ?_
  exact ⟨q, by rw [hq]; rfl, R4, by rw [hq]; rfl, B4⟩
end Go.Proofs.YtdibijhaiaiifaaDoor
