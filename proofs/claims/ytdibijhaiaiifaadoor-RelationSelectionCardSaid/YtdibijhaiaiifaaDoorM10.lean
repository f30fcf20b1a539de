/- The walks of has and of the law RelationSelection. -/
import Derived.Test.YtdibijhaiaiifaaDoorJ5
import Derived.Test.YtdibijhaiaiifaaDoorJ6
import Derived.Test.YtdibijhaiaiifaaDoorJ4
namespace Go.Proofs.YtdibijhaiaiifaaDoor
open Go.RowKit
set_option maxHeartbeats 2000000 in
set_option maxRecDepth 1000000 in
theorem has_any (va : Value) (y : Vl) (l : Tp) (w : World) (ha : IsVals w va l) : Calls Tryd.prog 50 #[va, valV y] w fun e w' => e = .returned (.bool (decide (y ∈ l))) ∧ Below w.heap.size w w' := by
  obtain ⟨r, hr⟩ : ∃ r, decide (y ∈ l) = r := ⟨_, rfl⟩
  rw [hr]
  have HR := Lib.hid hr
  clear hr
  obtain ⟨nt, hnt⟩ : ∃ nt, l.length = nt := ⟨_, rfl⟩
  obtain ⟨pa, ca, rfl, -, hma⟩ := id ha
  rw [hnt] at ha hma
  rw [hnt]
  have hm1 : nt ≤ 9223372036854775807 := by omega
  have HNT := Lib.hid hnt
  clear hma hnt
  unfold valV
  have BA := below_new w (.cells #[.int .i64 y.t, .int .i64 y.n, strV y.s] 58)
  have X := Cel.new w 58 [.int .i64 y.t, .int .i64 y.n, strV y.s]
  go_enter Tryd.func50, Tryd.ntmps50
  go_upto_region 1 with fail
  obtain ⟨wA, hwA⟩ : ∃ z, w.alloc (.cells #[.int .i64 y.t, .int .i64 y.n, strV y.s] 58) = z := ⟨_, rfl⟩
  have X' : Cel wA w.heap.size 58 [.int .i64 y.t, .int .i64 y.n, strV y.s] := by rw [← hwA]; exact X
  rw [hwA] at BA
  rw [hwA]
  clear hwA X
  have q0 := X'.at_ (j := 0) rfl
  have q1 := X'.at_ (j := 1) rfl
  have q2 := X'.at_ (j := 2) rfl
  replace ha := ha.keep BA
  go_wp2
  go_loopg [5] nt (fun g vi wr => ∃ i : Nat, vi = .int .i64 i ∧ i ≤ nt ∧ nt - i ≤ g ∧ Hid (∀ z ∈ l.take i, z ≠ y) ∧ Below wA.heap.size wA wr)
  case atStart => exact ⟨0, rfl, Nat.zero_le _, Nat.le_refl _, Lib.hid (by simp), Below.refl _ _⟩
  case round =>
    obtain ⟨i, rfl, hi, hg, V, B⟩ := hrel
    by_cases hlt : i < nt
    · have hltz : (i : Int) < (nt : Int) := by omega
      obtain ⟨z, hz⟩ := getElem_of_lt (l := l) (i := i) (by have := HNT.out; omega)
      obtain ⟨_, _, e, hrv, -⟩ := ha.keep B
      injection e with e1 e2 e3
      subst e1 e3
      obtain ⟨vb, vo, rfl, d0, d1, d2⟩ := vals_at hrv hz
      clear hrv e2
      have HZ := Lib.hid hz
      clear hz
      have s0 := cell_keep B q0
      have s1 := cell_keep B q1
      have s2 := cell_keep B q2
      obtain ⟨q, hq⟩ : ∃ q, decide (z = y) = q := ⟨_, rfl⟩
      have hqr : ∀ w, (binOp .eql 58 (.agg #[.int .i64 z.t, .int .i64 z.n, strV z.s]) (.agg #[.int .i64 y.t, .int .i64 y.n, strV y.s])).run Tryd.prog w = .ok (.bool q) w := fun w => by rw [← hq]; exact run_eq_vl z y w
      have hgd := run_guard_vl .eql
      have HQ := Lib.hid hq
      clear hq
      have a_d0 := AftB.cell d0
      have a_d1 := AftB.cell d1
      have a_d2 := AftB.cell d2
      have a_s0 := AftB.cell s0
      have a_s1 := AftB.cell s1
      have a_s2 := AftB.cell s2
      go_upto_region 4 with fail
      refine wp_region_aftB (by kernel_rfl) (by kernel_rfl) ?_
      repeat (go_big_quiet_step (fail))
      refine wpQuiet_nil ?_
      intro w5 B5
      clear a_d0 a_d1 a_d2 a_s0 a_s1 a_s2
      have BQ := B.trans (B5.mono B.size)
      cases q with
      | true =>
        have RES := Lib.hid (show r = true by rw [← HR.out]; exact decide_eq_true (by rw [← of_decide_eq_true HQ.out]; exact List.mem_of_getElem? HZ.out))
        go_wp2
        go_ret
        exact ⟨by rw [RES.out]; rfl, below_trans BA BQ⟩
      | false =>
        have VN := Lib.hid (show ∀ z ∈ l.take (i + 1), z ≠ y from fun u hu => by
          rw [take_succ' HZ.out] at hu
          rcases List.mem_append.1 hu with hu | hu
          · exact V.out u hu
          · rw [List.mem_singleton.1 hu]; exact of_decide_eq_false HQ.out)
        go_wp2
        go_roundg (nt - (i + 1))
        case measure => omega
        case rel => exact ⟨i + 1, by go_num, hlt, Nat.le_refl _, VN, BQ⟩
    · have hltz : ¬ (i : Int) < (nt : Int) := by omega
      have RES := Lib.hid (show r = false by
        rw [← HR.out]
        refine decide_eq_false fun h => V.out y ?_ rfl
        rw [List.take_of_length_le (by have := HNT.out; omega)]; exact h)
      go_wp2
      go_ret
      exact ⟨by rw [RES.out]; rfl, below_trans BA B⟩
theorem cell_grown {w w' : World} {row : Option Nat} {a : Addr} {v : Value} (hg : w.grownBy w' row) (hc : w.cell? a = some v) (hne : row ≠ some a.block) : w'.cell? a = some v := (World.cell?_of_block (hg.block a.block (cell_lt hc) fun e => hne e.symm)).trans hc
abbrev IsRx (v : Value) (ps : List RR) : World → Unit → Prop := fun w _ => IsRel w v ps
theorem isRx_keep (v : Value) (ps : List RR) : ∀ w w' : World, Below w.heap.size w w' → IsRx v ps w () → IsRx v ps w' () := fun _ _ h k => IsRel.keep k h
def Blk (v : Value) : Nat → Prop := fun k => v.ownBlock = some k
theorem blk_next {w : World} {v v' : Value} (hu : v'.ownBlock = v.ownBlock ∨ v'.ownBlock = some w.heap.size) : ∀ k, Blk v' k → Blk v k ∨ w.heap.size ≤ k := fun k hk => by
  unfold Blk at *
  rcases hu with h | h
  · exact .inl (by rw [← h]; exact hk)
  · rw [h] at hk; injection hk with hk; exact .inr (by omega)
theorem Free.tail {ms : List Tm} (h : Free ms) : Free (ms.drop 1) := fun i m hm => by
  rw [List.getElem?_drop] at hm
  obtain ⟨h1, h2⟩ := h _ m hm
  exact ⟨h1, fun j m' hm' he => by
    rw [List.getElem?_drop] at hm'
    have := h2 _ m' hm' he
    omega⟩
def conTm (y : Vl) : Tm := ⟨[], y, by simp⟩
theorem part_of {xs zs : List RR} {F : List Tm} {n : Nat} {y : Vl} (hF : Free F) (hn : F.length = n) (h0 : 1 ≤ n) (hz : CanOf (xs.filter fun x => matchL ([conTm y] ++ F.drop 1) x.t) zs) : CanOf (xs.filter fun x => decide (x.t.length = n) && decide (fst? x.t = some y)) zs := by
  have e : ∀ t : Tp, matchL ([conTm y] ++ F.drop 1) t = (decide (t.length = n) && decide (fst? t = some y)) := fun t => by
    have := match_part hF.tail (c := conTm y) rfl t
    rw [List.length_drop, hn, show n - 1 + 1 = n by omega] at this
    exact this
  simp only [e] at hz
  exact hz
def varTm (i : Nat) : Tm := ⟨nameA i, zeroVl, by simp [nameA]⟩
theorem fitsTm : Fits 39 60 4 48 (.agg #[.string ⟨#[]⟩, .int .i64 0, .int .i64 0, .string ⟨#[]⟩]) := ⟨Tryd.underlying39, by kernel_rfl, by kernel_rfl, by decide, by decide⟩
theorem SelectR_ts {va vt : Value} {xs : List RR} {ts : List Tm} {w0 w1 w : World} {Q : Ending → World → Prop} (hT : Tab w0) (ha : IsRel w0 va xs) (ht : IsTerms w1 vt ts) (sa : Sml 10000 xs) (hb : Below w0.heap.size w0 w) (hb1 : Below w1.heap.size w1 w)
    (k : ∀ p c w' zs, IsRel w' (.slice p zs.length c) zs → Hid (CanOf (xs.filter fun x => matchL ts x.t) zs) → Below w0.heap.size w0 w' → Q (.returned (.slice p zs.length c)) w') : Calls Tryd.prog 39 #[va, vt] w Q :=
  (SelectR_any va vt xs ts w (hT.keep hb) (ha.keep hb) (ht.keep hb1) sa).mono fun e w' ⟨u, he, zs, hR, hC, hB⟩ => by
    subst he
    have hR := hR.rel
    obtain ⟨p, c, rfl, -⟩ := hR.shape
    exact k p c w' zs hR (Lib.hid hC) (below_trans hb hB)
theorem Owns.one {α : Type} {k : Nat} {e : TypeId} {enc : α → List Value} (w : World) (x : α) (h : (enc x).length = k) : Owns k e enc (w.alloc (.cells (enc x).toArray e)) w.heap.size (.slice (some ⟨w.heap.size, 0, none⟩) 1 1) [x] := by
  have := World.ownsRow_lit (base := w.heap.size) (e := e) (size := k) w (enc x).toArray 1 (Nat.le_refl _) (by decide) (by simp [h])
  unfold Owns
  simpa using this
set_option maxHeartbeats 16000000 in
set_option maxRecDepth 1000000 in
theorem law10_any (va vb vm : Value) (xs ys : List RR) (ts : List Tm) (w : World) (hT : Tab w) (ha : IsRel w va xs) (hb : IsRel w vb ys) (hm : IsTerms w vm ts) : Calls Tryd.prog 10 #[va, vb, vm] w fun e w' => e = .returned (.bool true) ∧ Below w.heap.size w w' := by
  obtain ⟨pm, cm, rfl, -⟩ := hm.shape
  go_enter Tryd.func10, Tryd.ntmps10
  go_wp2_with fail
  refine (head_any _ hT).mono ?_
  rintro e w1 ⟨rfl, B1⟩
  replace hT := hT.keep B1
  replace ha := ha.keep B1
  replace hb := hb.keep B1
  replace hm := hm.keep B1
  go_wp2_with fail
  refine (fewR_any _ xs _ ha).mono ?_
  rintro e w2 ⟨rfl, bN⟩
  replace hT := hT.keep bN
  replace ha := ha.keep bN
  replace hb := hb.keep bN
  replace hm := hm.keep bN
  replace B1 := below_trans B1 bN
  clear bN
  cases hf : fewR xs
  · clear hf
    go_wp2
    go_ret
    exact ⟨rfl, B1⟩
  have HX := Lib.hid (fewR_sml hf)
  clear hf
  go_wp2_with fail
  refine (fewR_any _ ys _ hb).mono ?_
  rintro e w2 ⟨rfl, bN⟩
  replace hT := hT.keep bN
  replace ha := ha.keep bN
  replace hb := hb.keep bN
  replace hm := hm.keep bN
  replace B1 := below_trans B1 bN
  clear bN
  cases hf : fewR ys
  · clear hf
    go_wp2
    go_ret
    exact ⟨rfl, B1⟩
  have HY := Lib.hid (fewR_sml hf)
  clear hf
  by_cases hl : 6 < ts.length
  · have hlz : (6 : Int) < (ts.length : Int) := by omega
    go_wp2
    go_ret
    exact ⟨rfl, B1⟩
  have hlz : ¬ (6 : Int) < (ts.length : Int) := by omega
  have hl6 : ts.length ≤ 6 := by omega
  clear hl
  go_wp2_with fail
  refine (SelectR_any _ _ xs ts _ hT ha hm (HX.out.mono (by decide))).mono ?_
  rintro e wx ⟨ux, rfl, lx, Rx, Ox, bN⟩
  replace Rx := Rx.rel
  have Hx := Lib.hid Ox
  clear Ox
  replace hT := hT.keep bN
  replace ha := ha.keep bN
  replace hb := hb.keep bN
  replace hm := hm.keep bN
  replace B1 := below_trans B1 bN
  clear bN
  go_wp2_with fail
  refine (SelectR_any _ _ ys ts _ hT hb hm (HY.out.mono (by decide))).mono ?_
  rintro e wy ⟨uy, rfl, ly, Ry, Oy, bN⟩
  replace Ry := Ry.rel
  have Hy := Lib.hid Oy
  clear Oy
  replace hT := hT.keep bN
  replace ha := ha.keep bN
  replace hb := hb.keep bN
  replace hm := hm.keep bN
  replace Rx := Rx.keep bN
  replace B1 := below_trans B1 bN
  clear bN
  have SX := Lib.hid (Hx.out.sml _ (HX.out.filter _))
  have SY := Lib.hid (Hy.out.sml _ (HY.out.filter _))
  go_wp2_with fail
  refine (UnionR_any _ _ xs ys _ hT ha hb (HX.out.mono (by decide)) (HY.out.mono (by decide))).mono ?_
  rintro e wu ⟨uu, rfl, lu, Ru, Ou, bN⟩
  replace Ru := Ru.rel
  have Hu := Lib.hid Ou
  clear Ou
  replace hT := hT.keep bN
  replace ha := ha.keep bN
  replace hb := hb.keep bN
  replace hm := hm.keep bN
  replace Rx := Rx.keep bN
  replace Ry := Ry.keep bN
  replace B1 := below_trans B1 bN
  clear bN
  go_wp2_with fail
  refine (SelectR_any _ _ lu ts _ hT Ru hm ((Hu.out.sml _ _ HX.out HY.out).mono (by decide))).mono ?_
  rintro e ws ⟨us, rfl, ls, Rs, Os, bN⟩
  replace Rs := Rs.rel
  have Hs := Lib.hid Os
  clear Os
  replace hT := hT.keep bN
  replace ha := ha.keep bN
  replace hb := hb.keep bN
  replace hm := hm.keep bN
  replace Rx := Rx.keep bN
  replace Ry := Ry.keep bN
  replace Ru := Ru.keep bN
  replace B1 := below_trans B1 bN
  clear bN
  go_wp2_with fail
  refine (UnionR_any _ _ lx ly _ hT Rx Ry (SX.out.mono (by decide)) (SY.out.mono (by decide))).mono ?_
  rintro e wt ⟨ut, rfl, lt, Rt, Ot, bN⟩
  replace Rt := Rt.rel
  have Ht := Lib.hid Ot
  clear Ot
  replace hT := hT.keep bN
  replace ha := ha.keep bN
  replace hb := hb.keep bN
  replace hm := hm.keep bN
  replace Rx := Rx.keep bN
  replace Ry := Ry.keep bN
  replace Ru := Ru.keep bN
  replace Rs := Rs.keep bN
  replace B1 := below_trans B1 bN
  clear bN
  go_wp2_with fail
  refine (rSameR_any _ _ ls lt _ Rs Rt).mono ?_
  rintro e ws ⟨rfl, bN⟩
  rw [decide_eq_true (sel_op (P := matchL ts) dist_U Hu.out Hs.out Hx.out Hy.out Ht.out)]
  replace hT := hT.keep bN
  replace ha := ha.keep bN
  replace hb := hb.keep bN
  replace hm := hm.keep bN
  replace Rx := Rx.keep bN
  replace Ry := Ry.keep bN
  replace Ru := Ru.keep bN
  replace B1 := below_trans B1 bN
  clear bN
  clear Rs Rt
  clear Ru Hu Hs Ht
  go_wp2_with fail
  refine (MeetR_any _ _ xs ys _ hT ha hb (HX.out.mono (by decide)) (HY.out.mono (by decide))).mono ?_
  rintro e wv ⟨uv, rfl, lv, Rv, Ov, bN⟩
  replace Rv := Rv.rel
  have Hv := Lib.hid Ov
  clear Ov
  replace hT := hT.keep bN
  replace ha := ha.keep bN
  replace hb := hb.keep bN
  replace hm := hm.keep bN
  replace Rx := Rx.keep bN
  replace Ry := Ry.keep bN
  replace B1 := below_trans B1 bN
  clear bN
  go_wp2_with fail
  refine (SelectR_any _ _ lv ts _ hT Rv hm ((Hv.out.sml _ _ HX.out HY.out).mono (by decide))).mono ?_
  rintro e ws ⟨us, rfl, ls, Rs, Os, bN⟩
  replace Rs := Rs.rel
  have Hs := Lib.hid Os
  clear Os
  replace hT := hT.keep bN
  replace ha := ha.keep bN
  replace hb := hb.keep bN
  replace hm := hm.keep bN
  replace Rx := Rx.keep bN
  replace Ry := Ry.keep bN
  replace Rv := Rv.keep bN
  replace B1 := below_trans B1 bN
  clear bN
  go_wp2_with fail
  refine (MeetR_any _ _ lx ly _ hT Rx Ry (SX.out.mono (by decide)) (SY.out.mono (by decide))).mono ?_
  rintro e wt ⟨ut, rfl, lt, Rt, Ot, bN⟩
  replace Rt := Rt.rel
  have Ht := Lib.hid Ot
  clear Ot
  replace hT := hT.keep bN
  replace ha := ha.keep bN
  replace hb := hb.keep bN
  replace hm := hm.keep bN
  replace Rx := Rx.keep bN
  replace Ry := Ry.keep bN
  replace Rv := Rv.keep bN
  replace Rs := Rs.keep bN
  replace B1 := below_trans B1 bN
  clear bN
  go_wp2_with fail
  refine (rSameR_any _ _ ls lt _ Rs Rt).mono ?_
  rintro e ws ⟨rfl, bN⟩
  rw [decide_eq_true (sel_op (P := matchL ts) dist_M Hv.out Hs.out Hx.out Hy.out Ht.out)]
  replace hT := hT.keep bN
  replace ha := ha.keep bN
  replace hb := hb.keep bN
  replace hm := hm.keep bN
  replace Rx := Rx.keep bN
  replace Ry := Ry.keep bN
  replace Rv := Rv.keep bN
  replace B1 := below_trans B1 bN
  clear bN
  clear Rs Rt
  clear Rv Hv Hs Ht
  go_wp2_with fail
  refine (MinusR_any _ _ xs ys _ hT ha hb (HX.out.mono (by decide)) (HY.out.mono (by decide))).mono ?_
  rintro e wd ⟨ud, rfl, ld, Rd, Od, bN⟩
  replace Rd := Rd.rel
  have Hd := Lib.hid Od
  clear Od
  replace hT := hT.keep bN
  replace ha := ha.keep bN
  replace hb := hb.keep bN
  replace hm := hm.keep bN
  replace Rx := Rx.keep bN
  replace Ry := Ry.keep bN
  replace B1 := below_trans B1 bN
  clear bN
  go_wp2_with fail
  refine (SelectR_any _ _ ld ts _ hT Rd hm ((Hd.out.sml _ _ HX.out HY.out).mono (by decide))).mono ?_
  rintro e ws ⟨us, rfl, ls, Rs, Os, bN⟩
  replace Rs := Rs.rel
  have Hs := Lib.hid Os
  clear Os
  replace hT := hT.keep bN
  replace ha := ha.keep bN
  replace hb := hb.keep bN
  replace hm := hm.keep bN
  replace Rx := Rx.keep bN
  replace Ry := Ry.keep bN
  replace Rd := Rd.keep bN
  replace B1 := below_trans B1 bN
  clear bN
  go_wp2_with fail
  refine (MinusR_any _ _ lx ly _ hT Rx Ry (SX.out.mono (by decide)) (SY.out.mono (by decide))).mono ?_
  rintro e wt ⟨ut, rfl, lt, Rt, Ot, bN⟩
  replace Rt := Rt.rel
  have Ht := Lib.hid Ot
  clear Ot
  replace hT := hT.keep bN
  replace ha := ha.keep bN
  replace hb := hb.keep bN
  replace hm := hm.keep bN
  replace Rx := Rx.keep bN
  replace Ry := Ry.keep bN
  replace Rd := Rd.keep bN
  replace Rs := Rs.keep bN
  replace B1 := below_trans B1 bN
  clear bN
  go_wp2_with fail
  refine (rSameR_any _ _ ls lt _ Rs Rt).mono ?_
  rintro e ws ⟨rfl, bN⟩
  rw [decide_eq_true (sel_op (P := matchL ts) dist_D Hd.out Hs.out Hx.out Hy.out Ht.out)]
  replace hT := hT.keep bN
  replace ha := ha.keep bN
  replace hb := hb.keep bN
  replace hm := hm.keep bN
  replace Rx := Rx.keep bN
  replace Ry := Ry.keep bN
  replace Rd := Rd.keep bN
  replace B1 := below_trans B1 bN
  clear bN
  clear Rs Rt
  clear Rd Hd Hs Ht
  go_wp2_with fail
  refine (SelectR_any _ _ lx ts _ hT Rx hm (SX.out.mono (by decide))).mono ?_
  rintro e ws ⟨us, rfl, ls, Rs, Os, bN⟩
  replace Rs := Rs.rel
  have Hs := Lib.hid Os
  clear Os
  replace hT := hT.keep bN
  replace ha := ha.keep bN
  replace hb := hb.keep bN
  replace hm := hm.keep bN
  replace Rx := Rx.keep bN
  replace Ry := Ry.keep bN
  replace B1 := below_trans B1 bN
  clear bN
  go_wp2_with fail
  refine (rSameR_any _ _ ls lx _ Rs Rx).mono ?_
  rintro e ws ⟨rfl, bN⟩
  rw [decide_eq_true (sel_again (P := matchL ts) Hx.out Hs.out)]
  replace hT := hT.keep bN
  replace ha := ha.keep bN
  replace hb := hb.keep bN
  replace hm := hm.keep bN
  replace Rx := Rx.keep bN
  replace Ry := Ry.keep bN
  replace B1 := below_trans B1 bN
  clear bN
  clear Rs
  clear Hs Rx Ry hb Hx Hy SX SY
  by_cases hn0 : ts.length = 0
  · have hz : ((ts.length : Int) == 0) = true := by rw [hn0]; rfl
    clear hn0
    go_wp2
    go_ret
    exact ⟨rfl, B1⟩
  have hz : ((ts.length : Int) == 0) = false := by rw [beq_eq_false_iff_ne]; omega
  have HN0 := Lib.hid hn0
  clear hn0
  obtain ⟨n, hn⟩ : ∃ n, ts.length = n := ⟨_, rfl⟩
  rw [hn] at hz hl6 hlz HN0 hm
  rw [hn]
  clear hn hm
  have bS := below_new ws (.cells #[.string ⟨#[65]⟩, .string ⟨#[66]⟩, .string ⟨#[67]⟩, .string ⟨#[68]⟩, .string ⟨#[69]⟩, .string ⟨#[70]⟩] 9)
  have hS : IsStrs (ws.alloc (.cells #[.string ⟨#[65]⟩, .string ⟨#[66]⟩, .string ⟨#[67]⟩, .string ⟨#[68]⟩, .string ⟨#[69]⟩, .string ⟨#[70]⟩] 9)) (.slice (some ⟨ws.heap.size, 0, none⟩) 6 6) (freeL 6) := by
    have := IsRows.lit (e := 9) ws [[65], [66], [67], [68], [69], ([70] : List UInt8)] encsStr (by decide)
    exact this
  go_upto_region 11 with fail
  obtain ⟨wN, hwN⟩ : ∃ z, ws.alloc (.cells #[.string ⟨#[65]⟩, .string ⟨#[66]⟩, .string ⟨#[67]⟩, .string ⟨#[68]⟩, .string ⟨#[69]⟩, .string ⟨#[70]⟩] 9) = z := ⟨_, rfl⟩
  rw [hwN] at bS hS
  rw [hwN]
  clear hwN
  obtain ⟨gN, hgN⟩ : ∃ g, ws.heap.size = g := ⟨_, rfl⟩
  have HGN := Lib.hid hgN
  rw [hgN] at hS
  rw [hgN]
  clear hgN
  have hO0 : Owns 4 60 encTm (wN.alloc (.cells #[] 60)) wN.heap.size (.slice (some ⟨wN.heap.size, 0, none⟩) 0 0) [] := Owns.lit wN
  have bL := below_new wN (.cells #[] 60)
  go_wp2
  go_loopg [11, 12] n (fun g v11 vi wr => ∃ (i : Nat) (F : List Tm), vi = .int .i64 i ∧ i ≤ n ∧ n - i ≤ g ∧ Hid (F = (List.range i).map varTm) ∧ Owns 4 60 encTm wr wN.heap.size v11 F ∧ Below wN.heap.size wN wr)
  case atStart => exact ⟨0, [], rfl, Nat.zero_le _, Nat.le_refl _, Lib.hid (by simp), hO0, bL⟩
  case round =>
    obtain ⟨i, F, rfl, hi, hg, V, H11, B⟩ := hrel
    obtain ⟨p11, c11, rfl⟩ := H11.form
    have hFl : F.length ≤ 6 := by rw [V.out]; simp; omega
    by_cases hlt : i < n
    · have hltz : (i : Int) < (n : Int) := by omega
      have hi6 : (i : Int) < 6 := by omega
      obtain ⟨_, _, e, c0⟩ := (hS.keep B).at_ (i := i) (x := nameA i) (by unfold freeL; rw [List.getElem?_map, List.getElem?_range (by omega)]; rfl)
      cases e
      rw [Nat.zero_add] at c0
      have VN := Lib.hid (show F ++ [varTm i] = (List.range (i + 1)).map varTm by rw [List.range_succ, List.map_append, V.out]; rfl)
      have hmr : IsRows 4 encTm (wr.alloc (.cells #[strV (nameA i), .int .i64 0, .int .i64 0, .string ⟨#[]⟩] 60)) (.slice (some ⟨wr.heap.size, 0, none⟩) 1 1) [varTm i] := IsRows.lit wr [varTm i] encsTm (by simp)
      have bX := below_new wr (.cells #[strV (nameA i), .int .i64 0, .int .i64 0, .string ⟨#[]⟩] 60)
      go_wp2_with (at_builtin; refine wpList_cat fitsTm encsTm rfl _ _ rfl rfl rfl H11 bX hmr B.size (by omega) (by simp) ?_; intro p9 c9 w9 H9 B9 hG9; rw [List.length_append] at H9)
      go_roundg (n - (i + 1))
      case measure => omega
      case rel => exact ⟨i + 1, _, by go_num, hlt, Nat.le_refl _, VN, H9, B.trans B9⟩
    · have hltz : ¬ (i : Int) < (n : Int) := by omega
      obtain rfl : i = n := by omega
      have hFn : F.length = i := by rw [V.out]; simp
      have HFR := Lib.hid (show Free F from free_of (by rw [hFn, V.out]; unfold freeL; rw [List.map_map]; rfl) hFl)
      have HFN := Lib.hid hFn
      have hF0 : IsTerms wr (.slice p11 F.length c11) F := H11.is encsTm (by omega)
      rw [hFn] at hF0
      rw [hFn]
      clear hFn H11
      replace B := bS.trans (B.mono bS.size)
      have BW := below_trans B1 B
      replace hT := hT.keep B
      replace ha := ha.keep B
      go_wp2_with fail
      refine (SelectR_any _ _ xs F _ hT ha hF0 (HX.out.mono (by decide))).mono ?_
      rintro e wW ⟨uW, rfl, lw, Rw, Cw, bN⟩
      replace Rw := Rw.rel
      have HW := Lib.hid (show CanOf (xs.filter fun x => decide (x.t.length = i)) lw by
        have h := Cw
        simp only [match_free HFR.out, HFN.out] at h
        exact h)
      have SW := Lib.hid (Cw.sml _ (HX.out.filter _))
      have hWl := SW.out.len
      obtain ⟨pW, cW, rfl, -⟩ := Rw.shape
      clear Cw
      replace hT := hT.keep bN
      replace ha := ha.keep bN
      replace hF0 := hF0.keep bN
      replace BW := below_trans BW bN
      clear bN
      obtain ⟨fb, fo, rfl⟩ : ∃ b off, p11 = some ⟨b, off, none⟩ := by
        obtain ⟨x0, h0⟩ := getElem_of_lt (l := F) (i := 0) (by have := HFN.out; have := HN0.out; omega)
        obtain ⟨b, off, e, -⟩ := hF0.at_ h0
        exact ⟨b, off, e⟩
      have hi1 : 1 ≤ i := by have := HN0.out; omega
      have hc11 : i ≤ c11 := by
        obtain ⟨_, _, e, -, -, h, -⟩ := hF0
        injection e with e1 e2 e3
        rw [e3]; have := HFN.out; omega
      have h63 : c11 ≤ 9223372036854775807 := by
        obtain ⟨_, _, e, -, -, -, h⟩ := hF0
        injection e with e1 e2 e3
        rw [e3]; exact h
      have hF1 : IsTerms wW (.slice (if c11 = 1 then some ⟨fb, fo, none⟩ else some ⟨fb, fo + 4, none⟩) (i - 1) (c11 - 1)) (F.drop 1) := by
        by_cases h1 : c11 = 1
        · rw [if_pos h1]
          have hn : F.drop 1 = [] := List.drop_eq_nil_of_le (by have := HFN.out; omega)
          rw [hn]
          refine ⟨some ⟨fb, fo, none⟩, c11 - 1, by rw [show i - 1 = 0 by omega]; rfl, .inl rfl, by simp, by simp, by omega⟩
        · rw [if_neg h1]
          have := IsRows.drop hF0 (m := 1) (by have := HFN.out; have := HN0.out; omega)
          rw [Nat.one_mul, show F.length = i from HFN.out] at this
          exact this
      clear hFl hF0
      go_wp2
      go_loopg [14, 15, 16, 17] lw.length (fun g v14 v15 v16 vi wq => ∃ (j cnt : Nat) (seen : List Vl) (ps : List RR), vi = .int .i64 j ∧ v15 = .int .i64 cnt ∧ j ≤ lw.length ∧ lw.length - j ≤ g ∧ Hid (SelI lw j seen cnt ps) ∧ Hid (seen.length ≤ j) ∧ Off (IsRx v14 ps) wq (Blk v16) () ∧ Owns 3 58 encVl wq wW.heap.size v16 seen ∧ Below wW.heap.size wW wq)
      case atStart => exact ⟨0, 0, [], [], rfl, rfl, Nat.zero_le _, Nat.le_refl _, Lib.hid (SelI.start _), Lib.hid (by simp), fun w' _ => IsRel.nil w', Owns.nil _ _, Below.refl _ _⟩
      case round =>
        obtain ⟨j, cnt, seen, ps, rfl, rfl, hj, hg2, VS, VL, R14, H16, Bq⟩ := hrel
        obtain ⟨p16, c16, rfl⟩ := H16.form
        have hsl : seen.length ≤ 40 := by have := VL.out; omega
        have hcnt : cnt ≤ 40 := (VS.out.sml SW.out).2
        have sps : Sml 40 ps := (VS.out.sml SW.out).1
        have hTq := hT.keep Bq
        have haq := ha.keep Bq
        by_cases hlj : j < lw.length
        · have hljz : (j : Int) < (lw.length : Int) := by omega
          obtain ⟨x, hx⟩ := getElem_of_lt hlj
          obtain ⟨_, _, e, c0, c1, rx⟩ := (Rw.keep Bq).at_ hx
          cases e
          have hxl := lens HW.out x (List.mem_of_getElem? hx)
          obtain ⟨y, hy⟩ := fst_of hxl (by omega)
          have HXX := Lib.hid hx
          have HFY := Lib.hid hy
          obtain ⟨nt, hnt⟩ : ∃ nt, x.t.length = nt := ⟨_, rfl⟩
          have hrv := rx.1
          have hxv : x.av = .slice x.pa nt x.ca := by rw [← hnt]
          rw [hxv] at c0 hrv
          obtain ⟨_, _, e, hvr, -⟩ := hrv
          injection e with e1 e2 e3
          obtain ⟨vb, vo, e4, d0, d1, d2⟩ := vals_at hvr hy
          rw [← e1] at e4
          have hpx : x.pa = some ⟨vb, vo, none⟩ := e4
          rw [hpx] at c0
          have hni : ((nt : Int) != (i : Int)) = false := by rw [← hnt, hxl]; simp
          have hn1 : 0 < nt := by omega
          have HNI := Lib.hid (hnt.symm.trans hxl)
          simp only [Nat.zero_mul, Nat.add_zero] at d0 d1 d2
          clear hx hy hxl hnt hvr e1 e2 e3 e4 hpx hxv rx c1
          go_upto_region 26 with fail
          have BB := below_new wr (.cells #[.int .i64 y.t, .int .i64 y.n, strV y.s] 58)
          have Y := Cel.new wr 58 [.int .i64 y.t, .int .i64 y.n, strV y.s]
          obtain ⟨wB, hwB⟩ : ∃ z, wr.alloc (.cells #[.int .i64 y.t, .int .i64 y.n, strV y.s] 58) = z := ⟨_, rfl⟩
          have Y' : Cel wB wr.heap.size 58 [.int .i64 y.t, .int .i64 y.n, strV y.s] := by rw [← hwB]; exact Y
          rw [hwB] at BB
          rw [hwB]
          clear hwB Y
          obtain ⟨gB, hgB⟩ : ∃ g, wr.heap.size = g := ⟨_, rfl⟩
          have HNE := Lib.hid (show (Value.slice p16 seen.length c16).ownBlock ≠ some gB from fun e => by have := (H16.lt gB e).2; omega)
          rw [hgB] at Y'
          rw [hgB]
          clear hgB
          have y0 := Y'.at_ (j := 0) rfl
          have y1 := Y'.at_ (j := 1) rfl
          have y2 := Y'.at_ (j := 2) rfl
          replace R14 := R14.keep BB
          replace H16 := H16.keep BB
          replace Bq := Bq.trans (BB.mono Bq.size)
          have hS16 : IsVals wB (.slice p16 seen.length c16) seen := H16.is encsV (by omega)
          clear c0 d0 d1 d2 BB hTq haq
          go_wp2_with fail
          refine (has_any _ y seen _ hS16).mono ?_
          rintro e w1 ⟨rfl, B2⟩
          replace R14 := R14.keep B2
          replace H16 := H16.keep B2
          replace y0 := cell_keep B2 y0
          replace y1 := cell_keep B2 y1
          replace y2 := cell_keep B2 y2
          replace Bq := Bq.trans (B2.mono Bq.size)
          clear hS16 B2
          obtain ⟨q, hq⟩ : ∃ q, decide (y ∈ seen) = q := ⟨_, rfl⟩
          rw [hq]
          have HQ := Lib.hid hq
          clear hq
          cases q with
          | true =>
            have VN := Lib.hid (VS.out.old HXX.out HFY.out (of_decide_eq_true HQ.out))
            have VM := Lib.hid (show seen.length ≤ j + 1 by have := VL.out; omega)
            go_wp2
            go_roundg (lw.length - (j + 1))
            case measure => omega
            case rel => exact ⟨j + 1, cnt, seen, ps, by go_num, rfl, hlj, Nat.le_refl _, VN, VM, R14, H16, Bq⟩
          | false =>
            have hmr : IsRows 3 encVl (w1.alloc (.cells #[.int .i64 y.t, .int .i64 y.n, strV y.s] 58)) (.slice (some ⟨w1.heap.size, 0, none⟩) 1 1) [y] := IsRows.lit w1 [y] encsV (by simp)
            have bX := below_new w1 (.cells #[.int .i64 y.t, .int .i64 y.n, strV y.s] 58)
            go_wp2_with (at_builtin; refine wpList_own (v := .slice p16 seen.length c16) fitsV encsV rfl _ _ rfl rfl rfl H16 bX hmr Bq.size (by omega) (by simp) ?_; intro p9 c9 w9 H9 B9 hG9 hU9; rw [show (seen ++ [y]).length = seen.length + 1 from by simp] at H9 hU9)
            have O9 := Off.next (isRx_keep _ ps) (R14.keep bX) (.of_grown hG9 fun k hk => hk) (blk_next (v := .slice p16 seen.length c16) (v' := .slice p9 (seen.length + 1) c9) hU9)
            have z0 := cell_grown hG9 (cell_keep bX y0) HNE.out
            have z1 := cell_grown hG9 (cell_keep bX y1) HNE.out
            have z2 := cell_grown hG9 (cell_keep bX y2) HNE.out
            have VM := Lib.hid (show (seen ++ [y]).length ≤ j + 1 by have := VL.out; simp; omega)
            have hs9 : (seen ++ [y]).length ≤ 41 := by simp; omega
            have VFR := Lib.hid (fun (zs qs : List RR) h1 h2 => VS.out.fresh (zs := zs) (qs := qs) HXX.out HFY.out (of_decide_eq_false HQ.out) HW.out h1 h2)
            obtain ⟨seen2, hse⟩ : ∃ s2, seen ++ [y] = s2 := ⟨_, rfl⟩
            rw [hse] at H9 VM hs9 VFR
            have HSL := Lib.hid (show seen2.length = seen.length + 1 by rw [← hse]; simp)
            clear hse
            replace Bq := Bq.trans B9
            clear R14 y0 y1 y2 hG9 hU9 bX hmr H16
            have hT9 := hT.keep Bq
            have ha9 := ha.keep Bq
            have hOne : Owns 4 60 encTm (w9.alloc (.cells #[.string ⟨#[]⟩, .int .i64 y.t, .int .i64 y.n, strV y.s] 60)) w9.heap.size (.slice (some ⟨w9.heap.size, 0, none⟩) 1 1) [conTm y] := Owns.one w9 (conTm y) rfl
            have bO := below_new w9 (.cells #[.string ⟨#[]⟩, .int .i64 y.t, .int .i64 y.n, strV y.s] 60)
            have hF9 : IsTerms (w9.alloc (.cells #[.string ⟨#[]⟩, .int .i64 y.t, .int .i64 y.n, strV y.s] 60)) (.slice (if c11 = 1 then some ⟨fb, fo, none⟩ else some ⟨fb, fo + 4, none⟩) (i - 1) (c11 - 1)) (F.drop 1) := (hF1.keep Bq).keep bO
            have hdl : (F.drop 1).length ≤ 6 := by rw [List.length_drop]; have := HFN.out; omega
            have e1 : (1 : Int) ≤ (i : Int) := by omega
            have e2 : (i : Int) ≤ (c11 : Int) := by omega
            have e3 : (1 : Int) ≤ (c11 : Int) := by omega
            go_wp2
            go_region_law
              (first
                | (refine step_cat (wr := w9.alloc (.cells #[.string ⟨#[]⟩, .int .i64 y.t, .int .i64 y.n, strV y.s] 60)) fitsTm encsTm (by rfl) (.tmp 138) (.tmp 140) (by rfl) (by rfl) (by rfl) hOne (by first | exact Below.refl _ _ | exact (Below.refl _ _).drew | exact (Below.refl _ _).drew.drew) (by exact hF9) bO.size (by simp) (by omega) ?_; intro pA cA wA hOA hBA hGA; have hTA : IsTerms wA (.slice pA ([conTm y] ++ F.drop 1).length cA) ([conTm y] ++ F.drop 1) := hOA.is encsTm (by rw [List.length_append]; simp only [List.length_cons, List.length_nil]; omega); rw [show ([conTm y] ++ F.drop 1).length = F.length - 1 + 1 from by simp] at hTA; have hBB : Below w9.heap.size w9 wA := bO.trans hBA)
                | (go_simp; go_at_call 39; refine SelectR_ts (w0 := w9) (w1 := wA) hT9 ha9 hTA (HX.out.mono (by decide)) (by with_reducible (repeat (first | assumption | exact Below.refl _ _ | refine below_alloc' ?_ | refine below_drew' ?_ | refine below_step (by assumption) ?_))) (by with_reducible (repeat (first | assumption | exact Below.refl _ _ | refine below_alloc' ?_ | refine below_drew' ?_ | refine below_step (by assumption) ?_))) ?_; intro pZ cZ wZ zs RZ CZ BZ))
            all_goals
              generalize (if c11 = 1 then (some ⟨fb, fo, none⟩ : Option Addr) else some ⟨fb, fo + 4, none⟩) = pF
              have HZ := Lib.hid (part_of HFR.out HFN.out hi1 CZ.out)
              have SZ : Sml 40 zs := CZ.out.sml _ (HX.out.filter _)
              have hzl := SZ.len
              have hps := Off.here (O9.keep BZ)
              have HLT := Lib.hid (fun k hk => ((H9.keep BZ).lt k hk).2)
              have hTZ := hT9.keep BZ
              clear hTA hOA hBA hGA hOne hF9
              go_wp2_with fail
              refine (UnionR_any _ _ ps zs _ hTZ hps RZ (sps.mono (by decide)) (SZ.mono (by decide))).mono ?_
              rintro e w11 ⟨u11, rfl, qs, FQ, OQ, BQ⟩
              have H17 := (H9.keep BZ).keep BQ
              have ON : Off (IsRx u11 qs) w11 (Blk (.slice p9 (seen.length + 1) c9)) () := fun w' hw => FQ w' (hw.mono fun k hk => HLT.out k hk)
              have VN := Lib.hid (VFR.out zs qs HZ.out OQ)
              have BQQ := Bq.trans ((below_trans BZ BQ).mono Bq.size)
              clear FQ OQ
              go_wp2
              go_roundg (lw.length - (j + 1))
              case measure => omega
              case rel => exact ⟨j + 1, cnt + zs.length, seen2, qs, by go_num, by go_num, hlj, Nat.le_refl _, VN, VM, ON, H17, BQQ⟩
        · have hljz : ¬ (j : Int) < (lw.length : Int) := by omega
          obtain rfl : j = lw.length := by omega
          have HE := Lib.hid (VS.out.whole (fun y hy => fst_of (lens HW.out y hy) (by omega)))
          have hce : ((cnt : Int) == (lw.length : Int)) = true := by rw [HE.out.1]; simp
          have hps := Off.here R14
          have hwq := Rw.keep Bq
          go_wp2_with fail
          refine (rSameR_any _ _ ps lw _ hps hwq).mono ?_
          rintro e w5 ⟨rfl, B5⟩
          rw [decide_eq_true HE.out.2]
          go_wp2
          go_ret
          exact ⟨rfl, below_trans BW (Bq.trans (B5.mono Bq.size))⟩
end Go.Proofs.YtdibijhaiaiifaaDoor
