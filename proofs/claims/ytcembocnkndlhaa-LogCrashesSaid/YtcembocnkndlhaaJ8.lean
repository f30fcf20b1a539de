/- Parts Nf, Open: words, walks and laws that the claims of this seat share. -/
import Derived.Test.YtcembocnkndlhaaJ7
import Derived.Test.YtcembocnkndlhaaJ1
import Derived.Test.YtcembocnkndlhaaRows
import Derived.ProofKit
import Derived.OpenShut
import Derived.ShutString
import Derived.ChangeOld
import Derived.Below
import Derived.ChangeSame
import Derived.Deep.Slices
import Derived.Deep.Fields
/- The reference's walks: Append, Clear. -/
namespace Go.Proofs.Ytcembocnkndlhaa
open Go.RowKit
theorem rwrite_ts {B : Nat → Prop} {v bv : Value} {d d' : Dk} {k e : Int} {l : List UInt8} {w : World} {Q : Ending → World → Prop} (h : OffDisk B w v d) (hb : IsBytes w bv l) (hr : Hid (writeD d k l = (d', e))) (hl : d.writes.length ≤ 100000000) (hB : ∀ β, B β → β < w.heap.size)
    (q : ∀ pa pc wa wc w', OffDisk B w' (.agg #[.slice pa d'.pages.length pc, .slice wa d'.writes.length wc, .bool d'.down]) d' → Below w.heap.size w w' → Q (.returned (.tuple #[.agg #[.slice pa d'.pages.length pc, .slice wa d'.writes.length wc, .bool d'.down], .int .i64 e])) w') : Calls Try.prog 20 #[v, .int .i64 k, bv] w Q :=
  (rWrite_off B v d k bv l w h.is hb hl hB).mono fun x w' hres => by
    obtain ⟨pa, pc, wa, wc, rfl, hD, hb⟩ := off_to hres hr
    exact q pa pc wa wc w' hD hb
/-- The disk behind some of Append's writes: those of the pages from j on. -/
def midD (d : Dk) (z : Nat) (r : List UInt8) (j : Nat) : Dk := ⟨d.pages, d.writes ++ endW z r ++ backw (z + j) ((frame r).drop j), false⟩
theorem mid_all (d : Dk) (z : Nat) (r : List UInt8) : midD d z r 0 = ⟨d.pages, d.writes ++ appendW z r, false⟩ := by
  unfold midD appendW endW
  rw [List.append_assoc]
  rfl
theorem mid_none (d : Dk) (z : Nat) (r : List UInt8) : midD d z r (pagesN r.length) = ⟨d.pages, d.writes ++ endW z r, false⟩ := by
  unfold midD
  rw [List.drop_of_length_le (by rw [length_frame]; exact Nat.le_refl _)]
  show (⟨d.pages, d.writes ++ endW z r ++ [], false⟩ : Dk) = _
  rw [List.append_nil]
theorem formed_endW {d : Dk} (z : Nat) (r : List UInt8) (hf : formed d = true) (hd : d.down = false) : formed ⟨d.pages, d.writes ++ endW z r, d.down⟩ = true := by
  unfold endW
  split
  · exact formed_write (data := []) hf hd (by omega) (by omega)
  · rw [List.append_nil]; exact hf
theorem formed_mid {d : Dk} {z : Nat} {r : List UInt8} (hf : formed d = true) (hd : d.down = false) (hz : z + pagesN r.length ≤ 400) : ∀ (i : Nat), i ≤ pagesN r.length → formed (midD d z r (pagesN r.length - i)) = true
  | 0, _ => by
    have := formed_endW z r hf hd
    rw [hd] at this
    rw [Nat.sub_zero, mid_none]
    exact this
  | i + 1, h => by
    have ih := formed_mid hf hd hz i (by omega)
    have hl : pagesN r.length - (i + 1) < (frame r).length := by rw [length_frame]; omega
    obtain ⟨j, hj⟩ : ∃ j, pagesN r.length - (i + 1) = j := ⟨_, rfl⟩
    rw [show pagesN r.length - i = j + 1 by omega] at ih
    rw [hj] at hl ⊢
    have h64 := frame_wide r _ (List.getElem_mem hl)
    have := formed_write (d := midD d z r (j + 1)) (k := ((z + j : Nat) : Int)) (data := (frame r)[j]) ih rfl (by omega) (by omega)
    unfold midD at this ⊢
    rw [List.drop_eq_getElem_cons hl, backw, ← List.append_assoc]
    rw [full_self h64] at this
    exact this
theorem mid_step {d : Dk} {z : Nat} {r : List UInt8} (hf : formed d = true) (hd : d.down = false) (hz : z + pagesN r.length ≤ 400) {i : Nat} {p : List UInt8} (hp : (frame r)[i]? = some p) : writeD (midD d z r (i + 1)) ((z : Int) + (i : Int)) p = (midD d z r i, 0) := by
  obtain ⟨hl, rfl⟩ := List.getElem?_eq_some_iff.1 hp
  have hl2 : i < pagesN r.length := by rw [← length_frame]; exact hl
  have h64 := frame_wide r _ (List.getElem_mem hl)
  have hfm := formed_mid (r := r) hf hd hz (pagesN r.length - (i + 1)) (by omega)
  rw [show pagesN r.length - (pagesN r.length - (i + 1)) = i + 1 by omega] at hfm
  rw [writeD_ok hfm rfl (by omega) (by omega) (by omega), full_self h64]
  unfold midD
  rw [List.drop_eq_getElem_cons hl, backw, ← List.append_assoc]
  rfl
theorem end_step {d : Dk} {z : Nat} {r : List UInt8} (hf : formed d = true) (hd : d.down = false) (hz : z + pagesN r.length < 400) : writeD d ((z : Int) + (pagesN r.length : Int)) [] = (midD d z r (pagesN r.length), 0) := by
  rw [writeD_ok hf hd (by omega) (by omega) (by simp), mid_none, hd]
  unfold endW
  rw [if_pos hz]
  rfl
theorem mid_start {d : Dk} {z : Nat} {r : List UInt8} (hd : d.down = false) (hz : ¬ z + pagesN r.length < 400) : midD d z r (pagesN r.length) = d := by
  rw [mid_none]
  unfold endW
  rw [if_neg hz, List.append_nil, ← hd]
theorem mid_len (d : Dk) (z : Nat) (r : List UInt8) (j : Nat) : (midD d z r j).writes.length ≤ d.writes.length + 1 + pagesN r.length := by
  unfold midD
  have h1 := endW_len z r
  have h2 : (backw (z + j) ((frame r).drop j)).length ≤ pagesN r.length := by rw [length_backw, List.length_drop, length_frame]; omega
  simp only [List.length_append]
  omega
set_option maxHeartbeats 8000000 in
set_option maxRecDepth 100000 in
theorem rAppend_any (v : Value) (d : Dk) (k : Int) (bv : Value) (r : List UInt8) (w : World) (h : IsDisk w v d) (hb : IsBytes w bv r) (hl : r.length ≤ 100000) (hwl : d.writes.length ≤ 1000000) : Calls Try.prog 47 #[v, .int .i64 k, bv] w (DiskErr (appendD d k r) w) := by
  have h0 := h
  have hb0 := hb
  obtain ⟨pa, pc, wa, wk, rfl, -, -, -⟩ := h.shape
  obtain ⟨ba, bc, rfl, -, mb⟩ := hb
  have b1 := below_new w (.cells #[.slice pa d.pages.length pc, .slice wa d.writes.length wk, .bool d.down] 25)
  have b2 := below_new (w.alloc (.cells #[.slice pa d.pages.length pc, .slice wa d.writes.length wk, .bool d.down] 25)) (.cells #[.slice none 0 0, .slice none 0 0, .bool false] 25)
  have b0 := below_trans b1 b2
  have g0 := block_keep (heap_alloc_new w (.cells #[.slice pa d.pages.length pc, .slice wa d.writes.length wk, .bool d.down] 25)) b2
  have g1 := box_at2 w (.slice pa d.pages.length pc) (.slice wa d.writes.length wk) (.bool d.down)
  obtain ⟨wb, hwb⟩ : ∃ x : World, x = (w.alloc (.cells #[.slice pa d.pages.length pc, .slice wa d.writes.length wk, .bool d.down] 25)).alloc (.cells #[.slice none 0 0, .slice none 0 0, .bool false] 25) := ⟨_, rfl⟩
  rw [← hwb] at b0 g0 g1
  clear b1 b2
  obtain ⟨y0, y1, y2, -, -, -⟩ := Box3.of g0
  by_cases hf : failure d k = 0
  case neg =>
    have HR := Lib.hid (show appendD d k r = (noDisk, failure d k) from if_pos hf)
    obtain ⟨f, hr⟩ : ∃ f, failure d k = f := ⟨_, rfl⟩
    have hq : (f != 0) = true := by rw [← hr]; simpa using hf
    have HRR := Lib.hid (readD_off hr (by omega))
    rw [hr] at HR
    clear hf hr
    go_enter Try.func47, Try.ntmps47
    go_wp2_with fail
    rw [← hwb]
    clear hwb
    (with_reducible refine (rRead_any _ d k _ (h0.keep b0)).mono ?_)
    intro e w1 hres
    obtain ⟨a, c, rfl, tp, b1⟩ := hres.to HRR
    obtain ⟨u0, u1, u2, uf0, uf1, uf2⟩ := Box3.of (block_keep g1 b1)
    go_wp2
    refine bodyPost_ret (v := .tuple #[zeroV, .int .i64 f]) (by simp [results, Try.results47, go_sem, zeroV, u0, u1, u2]) rfl ?_
    refine ⟨zeroV, by rw [HR.out], by rw [HR.out]; exact IsDisk.zero _, ?_⟩
    exact (((below_trans b0 b1).setCell (p := ⟨w.heap.size + 1, 0, none⟩) (by simp) _).setCell (p := ⟨w.heap.size + 1, 1, none⟩) (by simp) _).setCell (p := ⟨w.heap.size + 1, 2, none⟩) (by simp) _
  have HRR := Lib.hid (readD_on hf)
  have HE := Lib.hid (endD_ok hf)
  obtain ⟨z, hzz⟩ : ∃ z, zOf d k = z := ⟨_, rfl⟩
  obtain ⟨p, hp⟩ : ∃ p, pagesN r.length = p := ⟨_, rfl⟩
  rw [hzz] at HE
  have HP := Lib.hid hp
  have hz4 : z ≤ 400 := by
    rw [← hzz]
    obtain ⟨-, -, e1, e2⟩ := failure_zero hf
    have := (walkL_chain (pagesOf d) 400 k.toNat (by omega)).1.top (by omega)
    unfold zOf; omega
  have hp4 : p ≤ 100000 := by rw [← hp]; unfold pagesN; omega
  have hp1 : 1 ≤ p := by rw [← hp]; unfold pagesN; omega
  have HR2 := Lib.hid (show appendD d k r = if z + p > 400 then (noDisk, 2) else (⟨d.pages, d.writes ++ appendW z r, false⟩, 0) by unfold appendD; rw [if_neg (by simp [hf]), hzz, hp])
  obtain ⟨hfm, hdn, -, -⟩ := failure_zero hf
  have HFM := Lib.hid hfm
  have HDN := Lib.hid hdn
  clear hf hzz hp hfm hdn
  go_enter Try.func47, Try.ntmps47
  go_wp2_with fail
  rw [← hwb]
  clear hwb
  (with_reducible refine (rRead_any _ d k _ (h0.keep b0)).mono ?_)
  intro e w1 hres
  obtain ⟨a, c, rfl, tp, b1⟩ := hres.to HRR
  have b01 := below_trans b0 b1
  have g01 := block_keep g0 b1
  have g11 := block_keep g1 b1
  clear y0 y1 y2 hres tp g0 g1 b0 b1
  obtain ⟨y0, y1, y2, -, -, -⟩ := Box3.of g01
  go_wp2_with fail
  (with_reducible refine (rEnd_any _ d k _ (h0.keep b01)).mono ?_)
  rintro e w2 ⟨rfl, b2⟩
  rw [HE.out]
  have b02 := below_trans b01 b2
  have g02 := block_keep g01 b2
  have g12 := block_keep g11 b2
  clear y0 y1 y2 b01 b2 g01 g11
  go_wp2_with fail
  (with_reducible refine (rPages_any _ r _ (hb0.keep b02) (by omega)).mono ?_)
  rintro e w3 ⟨rfl, rfl⟩
  rw [HP.out]
  have hw4 : IntKind.i64.wrap ((z : Int) + (p : Int)) = (z : Int) + (p : Int) := by rw [IntKind.wrap_i64]; omega
  by_cases hzp : z + p > 400
  · have hq : decide ((400 : Int) < (z : Int) + (p : Int)) = true := decide_eq_true (by omega)
    have HR := Lib.hid (show appendD d k r = (noDisk, 2) by rw [HR2.out, if_pos hzp])
    obtain ⟨u0, u1, u2, uf0, uf1, uf2⟩ := Box3.of g12
    go_wp2
    refine bodyPost_ret (v := .tuple #[zeroV, .int .i64 2]) (by simp [results, Try.results47, go_sem, zeroV, u0, u1, u2]) rfl ?_
    refine ⟨zeroV, by rw [HR.out], by rw [HR.out]; exact IsDisk.zero _, ?_⟩
    exact ((b02.setCell (p := ⟨w.heap.size + 1, 0, none⟩) (by simp) _).setCell (p := ⟨w.heap.size + 1, 1, none⟩) (by simp) _).setCell (p := ⟨w.heap.size + 1, 2, none⟩) (by simp) _
  have hq : decide ((400 : Int) < (z : Int) + (p : Int)) = false := decide_eq_false (by omega)
  have HR := Lib.hid (show appendD d k r = (midD d z r 0, 0) by rw [HR2.out, if_neg hzp, mid_all])
  have HFZ : z + pagesN r.length ≤ 400 := by rw [HP.out]; omega
  have HSTEP : ∀ i q, (frame r)[i]? = some q → Hid (writeD (midD d z r (i + 1)) ((z : Int) + (i : Int)) q = (midD d z r i, 0)) := fun i q hi => Lib.hid (mid_step HFM.out HDN.out HFZ hi)
  have HS2 := Lib.hid HSTEP
  have ho : OffDisk (fun i => i = w.heap.size ∨ i = w.heap.size + 1) w2 (.agg #[.slice pa d.pages.length pc, .slice wa d.writes.length wk, .bool d.down]) d := h0.off b02 (by rintro β (rfl | rfl) <;> omega)
  have hBl : ∀ β, (β = w.heap.size ∨ β = w.heap.size + 1) → β < w2.heap.size := by rintro β (rfl | rfl); exact block_lt g02; exact block_lt g12
  have HBL := Lib.hid hBl
  have HEND : z + p < 400 → Hid (writeD d ((z : Int) + (p : Int)) [] = (midD d z r p, 0)) := fun hz => Lib.hid (by have := end_step (r := r) HFM.out HDN.out (z := z) (by rw [HP.out]; exact hz); rw [HP.out] at this; exact this)
  have HSTA : ¬ z + p < 400 → Hid (midD d z r p = d) := fun hz => Lib.hid (by have := mid_start (r := r) (z := z) HDN.out (by rw [HP.out]; exact hz); rw [HP.out] at this; exact this)
  have HML := Lib.hid (mid_len d z r)
  rw [HP.out] at HML
  obtain ⟨D, hD⟩ : ∃ D, midD d z r = D := ⟨_, rfl⟩
  rw [hD] at HS2 HR HML HEND HSTA
  clear HSTEP HR2 hBl hD
  go_upto_if 37 with (fail)
  go_cut [] from 37 to 45 (fun wx => (∃ pa2 pc2 wa2 wk2, wx.heap[w.heap.size]? = some (.cells #[.slice pa2 (D p).pages.length pc2, .slice wa2 (D p).writes.length wk2, .bool (D p).down] 25 (0, 0)) ∧ OffDisk (fun i => i = w.heap.size ∨ i = w.heap.size + 1) wx (.agg #[.slice pa2 (D p).pages.length pc2, .slice wa2 (D p).writes.length wk2, .bool (D p).down]) (D p)) ∧ wx.heap[w.heap.size + 1]? = some (.cells #[.slice none 0 0, .slice none 0 0, .bool false] 25 (0, 0)) ∧ Below w.heap.size w wx)
  case first =>
    obtain ⟨y0, y1, y2, f0, f1, f2⟩ := Box3.of g02
    by_cases hz : z + p < 400
    · have hq2 : decide ((z : Int) + (p : Int) < 400) = true := decide_eq_true (by omega)
      have HE2 := HEND hz
      clear HEND HSTA
      go_wp2_with fail
      (with_reducible refine rwrite_ts ho (IsBytes.nil _) HE2 (by omega) HBL.out ?_)
      intro pa2 pc2 wa2 wk2 w5 h5 b5
      have g05 := block_keep g02 b5
      have g15 := block_keep g12 b5
      clear y0 y1 y2 f0 f1 f2
      obtain ⟨y0, y1, y2, f0, f1, f2⟩ := Box3.of g05
      have gZ := box_set3 g05 (.slice pa2 (D p).pages.length pc2) (.slice wa2 (D p).writes.length wk2) (.bool (D p).down)
      have hZ := off_set3 h5 (.inl rfl) (.slice pa2 (D p).pages.length pc2) (.slice wa2 (D p).writes.length wk2) (.bool (D p).down)
      have bZ := (((below_trans b02 b5).setCell (p := ⟨w.heap.size, 0, none⟩) (by simp) (.slice pa2 (D p).pages.length pc2)).setCell (p := ⟨w.heap.size, 1, none⟩) (by simp) (.slice wa2 (D p).writes.length wk2)).setCell (p := ⟨w.heap.size, 2, none⟩) (by simp) (.bool (D p).down)
      have g1Z : ((((w5.setCell ⟨w.heap.size, 0, none⟩ (.slice pa2 (D p).pages.length pc2)).setCell ⟨w.heap.size, 1, none⟩ (.slice wa2 (D p).writes.length wk2)).setCell ⟨w.heap.size, 2, none⟩ (.bool (D p).down))).heap[w.heap.size + 1]? = some (.cells #[.slice none 0 0, .slice none 0 0, .bool false] 25 (0, 0)) := block_other (block_other (block_other g15 (by omega)) (by omega)) (by omega)
      go_wp2
      go_meet
      case rel => exact ⟨⟨_, _, _, _, gZ, hZ⟩, g1Z, bZ⟩
    · have hq2 : decide ((z : Int) + (p : Int) < 400) = false := decide_eq_false (by omega)
      have HE2 := HSTA hz
      clear HEND HSTA
      go_wp2
      go_meet
      case rel => exact ⟨⟨_, _, _, _, by rw [HE2.out]; exact g02, by rw [HE2.out]; exact ho⟩, g12, b02⟩
  case rest =>
    obtain ⟨⟨pa2, pc2, wa2, wk2, g05, h5⟩, g15, b05⟩ := hcut
    obtain ⟨w5, rfl⟩ : ∃ wx : World, wx = wc := ⟨_, rfl⟩
    clear ho g02 g12 HEND HSTA HBL
    go_wp2_with fail
    (with_reducible refine (rFrame_any _ r _ (hb0.keep b05) hl).mono ?_)
    rintro e w6 ⟨u, rfl, hF, b6⟩
    obtain ⟨fg, fc, fcur, rfl, hfg, hfgb, hfc1, hfc2, -, -⟩ := id hF.form
    have HFL := Lib.hid (show (frameB r).length = 64 * p by rw [length_frameB, HP.out])
    have HFP := Lib.hid (fun i q (h : (frame r)[i]? = some q) => frameB_page r h)
    obtain ⟨F, hFF⟩ : ∃ F, frameB r = F := ⟨_, rfl⟩
    rw [hFF] at hF HFL HFP hfc1
    rw [hFF]
    clear hFF
    have hfcm : fc ≤ 9223372036854775807 := by unfold maxLen at hfc2; omega
    have hF2 : OwnB w6 (w.heap.size + 2) (.slice (some ⟨fg, 0, none⟩) F.length fc) F := hF.mono (by have := block_lt g15; omega)
    have g06 := block_keep g05 b6
    have g16 := block_keep g15 b6
    have h6 := h5.keep b6
    have b06 := below_trans b05 b6
    clear hF hfg hfgb g05 g15 h5 b05 b6 hfc2
    go_wp2
    go_loopw [13] (fun iv wr => ∃ j : Nat, j ≤ p ∧ iv = .int .i64 ((j : Int) - 1) ∧ (∃ qa qc xa xc, wr.heap[w.heap.size]? = some (.cells #[.slice qa (D j).pages.length qc, .slice xa (D j).writes.length xc, .bool (D j).down] 25 (0, 0)) ∧ OffDisk (fun i => i = w.heap.size ∨ i = w.heap.size + 1) wr (.agg #[.slice qa (D j).pages.length qc, .slice xa (D j).writes.length xc, .bool (D j).down]) (D j)) ∧ wr.heap[w.heap.size + 1]? = some (.cells #[.slice none 0 0, .slice none 0 0, .bool false] 25 (0, 0)) ∧ OwnB wr (w.heap.size + 2) (.slice (some ⟨fg, 0, none⟩) F.length fc) F ∧ Below w.heap.size w wr) (fun iv _ => (intOf iv + 1).toNat)
    case atStart => exact ⟨p, Nat.le_refl _, rfl, ⟨_, _, _, _, g06, h6⟩, g16, hF2, b06⟩
    case round =>
      clear hF2 g06 g16 h6 b06
      obtain ⟨j, hjp, rfl, ⟨qa, qc, xa, xc, gB, hD⟩, gR, hF, hB⟩ := hrel
      obtain ⟨wo, rfl⟩ : ∃ wo : World, wo = wr := ⟨_, rfl⟩
      cases j with
      | zero =>
        have hd : decide ((0 : Int) ≤ -1) = false := rfl
        rw [show ((0 : Nat) : Int) - 1 = -1 by omega]
        obtain ⟨y0, y1, y2, -, -, -⟩ := Box3.of gB
        obtain ⟨u0, u1, u2, uf0, uf1, uf2⟩ := Box3.of gR
        have hZ := off_set3 hD (.inr rfl) (.slice qa (D 0).pages.length qc) (.slice xa (D 0).writes.length xc) (.bool (D 0).down)
        have bZ := ((hB.setCell (p := ⟨w.heap.size + 1, 0, none⟩) (by simp) (.slice qa (D 0).pages.length qc)).setCell (p := ⟨w.heap.size + 1, 1, none⟩) (by simp) (.slice xa (D 0).writes.length xc)).setCell (p := ⟨w.heap.size + 1, 2, none⟩) (by simp) (.bool (D 0).down)
        go_wp2
        refine bodyPost_ret (v := .tuple #[.agg #[.slice qa (D 0).pages.length qc, .slice xa (D 0).writes.length xc, .bool (D 0).down], .int .i64 0]) (by simp [results, Try.results47, go_sem, u0, u1, u2]) rfl ?_
        exact ⟨_, by rw [HR.out], by rw [HR.out]; exact hZ.is, bZ⟩
      | succ i =>
        have hi0 : (0 : Int) ≤ (i : Int) := by omega
        rw [show ((i + 1 : Nat) : Int) - 1 = (i : Int) by omega]
        have hd : decide ((0 : Int) ≤ (i : Int)) = true := decide_eq_true hi0
        have hFl : F.length = 64 * p := HFL.out
        have hlt : i < (frame r).length := by rw [length_frame, HP.out]; omega
        obtain ⟨q, hq0⟩ : ∃ q, (frame r)[i]? = some q := ⟨_, List.getElem?_eq_getElem hlt⟩
        have HWS := HS2.out i q hq0
        have tP := bytes_part (hF.is (by omega)) (i := 64 * i) (m := 64) (by omega)
        rw [HFP.out i q hq0] at tP
        have HDL := HML.out (i + 1)
        have hDl : (D (i + 1)).writes.length ≤ 100000000 := by omega
        have e1 : 64 * i < fc := by omega
        have e2 : 64 * i + 64 ≤ fc := by omega
        have e3 : 64 * i + 64 ≤ F.length := by omega
        have e4 : (64 * (i : Int)).toNat = 64 * i := by omega
        have e5 : (64 * (i : Int) + 64).toNat = 64 * i + 64 := by omega
        have e6 : (0 : Int) ≤ 64 * (i : Int) := by omega
        have w1 : IntKind.i64.wrap (64 * (i : Int)) = 64 * (i : Int) := wrap_i64_id (by omega) (by omega)
        have w2 : IntKind.i64.wrap (64 * (i : Int) + 64) = 64 * (i : Int) + 64 := wrap_i64_id (by omega) (by omega)
        have w3 : IntKind.i64.wrap ((z : Int) + (i : Int)) = (z : Int) + (i : Int) := wrap_i64_id (by omega) (by omega)
        have e7 : 64 * (i : Int) ≤ 64 * (i : Int) + 64 := by omega
        have e8 : 64 * (i : Int) + 64 ≤ (fc : Int) := by omega
        have e9 : (fc = 64 * i) = False := eq_false (by omega)
        have e10 : 64 * i + 64 - 64 * i = 64 := by omega
        rw [Nat.zero_add] at tP
        have hBl : ∀ β, (β = w.heap.size ∨ β = w.heap.size + 1) → β < wo.drew.heap.size := by rintro β (rfl | rfl); exact block_lt gB; exact block_lt gR
        have HBL := Lib.hid hBl
        have HS : ∀ w', Below wo.heap.size wo w' → (fun w' => w'.cell? ⟨w.heap.size, 0, none⟩ = some (.slice qa (D (i + 1)).pages.length qc) ∧ w'.cell? ⟨w.heap.size, 1, none⟩ = some (.slice xa (D (i + 1)).writes.length xc) ∧ w'.cell? ⟨w.heap.size, 2, none⟩ = some (.bool (D (i + 1)).down)) w' := fun w' hb => ⟨(Box3.of (block_keep gB hb)).c0, (Box3.of (block_keep gB hb)).c1, (Box3.of (block_keep gB hb)).c2⟩
        clear hFl hlt hq0 HDL hBl
        go_wp2
        refine wp_region_noPanic ?_
        refine wp_region_L (fun w' => w'.cell? ⟨w.heap.size, 0, none⟩ = some (.slice qa (D (i + 1)).pages.length qc) ∧ w'.cell? ⟨w.heap.size, 1, none⟩ = some (.slice xa (D (i + 1)).writes.length xc) ∧ w'.cell? ⟨w.heap.size, 2, none⟩ = some (.bool (D (i + 1)).down)) [15] (by kernel_rfl) (HS _ (below_drew' (Below.refl _ _))) (fun hHeld => ?_)
        refine anyL_read (i := 0) (oi := _) (v := ?_) rfl (by kernel_rfl) (by kernel_rfl) (by kernel_rfl) (by kernel_rfl) (by kernel_rfl) (fun _ _ _ h => h) (Or.inl ⟨by rfl, ?_⟩) (by kernel_rfl) hHeld ?_
        rotate_left
        · intro w' hSw; try dsimp only at hSw
          go_simp
          try with_reducible rfl
        try simp only [puts, gets]
        refine anyL_take (i := 1) (oi := _) (v := ?_) rfl (by kernel_rfl) (by kernel_rfl) (by kernel_rfl) (by kernel_rfl) (fun _ _ _ h => h) (Or.inl ⟨by rfl, ?_⟩) (fun _ => hHeld) ?_
        rotate_left
        · intro w' hSw; try dsimp only at hSw
          go_simp
          try with_reducible rfl
        try simp only [puts, gets]
        refine anyL_take (i := 2) (oi := _) (v := ?_) rfl (by kernel_rfl) (by kernel_rfl) (by kernel_rfl) (by kernel_rfl) (fun _ _ _ h => h) (Or.inl ⟨by rfl, ?_⟩) (fun _ => hHeld) ?_
        rotate_left
        · intro w' hSw; try dsimp only at hSw
          go_simp
          try with_reducible rfl
        try simp only [puts, gets]
        refine anyL_take (i := 3) (oi := _) (v := ?_) rfl (by kernel_rfl) (by kernel_rfl) (by kernel_rfl) (by kernel_rfl) (fun _ _ _ h => h) (Or.inl ⟨by rfl, ?_⟩) (fun _ => hHeld) ?_
        rotate_left
        · intro w' hSw; try dsimp only at hSw
          go_simp
          try with_reducible rfl
        try simp only [puts, gets]
        refine anyL_take (i := 4) (oi := _) (v := ?_) rfl (by kernel_rfl) (by kernel_rfl) (by kernel_rfl) (by kernel_rfl) (fun _ _ _ h => h) (Or.inl ⟨by rfl, ?_⟩) (fun _ => hHeld) ?_
        rotate_left
        · intro w' hSw; try dsimp only at hSw
          go_simp
          try with_reducible rfl
        try simp only [puts, gets]
        refine anyL_take (i := 5) (oi := _) (v := ?_) rfl (by kernel_rfl) (by kernel_rfl) (by kernel_rfl) (by kernel_rfl) (fun _ _ _ h => h) (Or.inl ⟨by rfl, ?_⟩) (fun _ => hHeld) ?_
        rotate_left
        · intro w' hSw; try dsimp only at hSw
          go_simp
          try with_reducible rfl
        try simp only [puts, gets]
        refine anyL_take (i := 6) (oi := _) (v := ?_) rfl (by kernel_rfl) (by kernel_rfl) (by kernel_rfl) (by kernel_rfl) (fun _ _ _ h => h) (Or.inl ⟨by rfl, ?_⟩) (fun _ => hHeld) ?_
        rotate_left
        · intro w' hSw; try dsimp only at hSw
          go_simp
          try with_reducible rfl
        try simp only [puts, gets]
        refine anyL_take (i := 7) (oi := _) (v := ?_) rfl (by kernel_rfl) (by kernel_rfl) (by kernel_rfl) (by kernel_rfl) (fun _ _ _ h => h) (Or.inl ⟨by rfl, ?_⟩) (fun _ => hHeld) ?_
        rotate_left
        · intro w' hSw; try dsimp only at hSw
          go_simp
          try with_reducible rfl
        try simp only [puts, gets]
        refine anyL_take (i := 8) (oi := _) (v := ?_) rfl (by kernel_rfl) (by kernel_rfl) (by kernel_rfl) (by kernel_rfl) (fun _ _ _ h => h) (Or.inl ⟨by rfl, ?_⟩) (fun _ => hHeld) ?_
        rotate_left
        · intro w' hSw; try dsimp only at hSw
          go_simp
          try with_reducible rfl
        try simp only [puts, gets]
        refine anyL_take (i := 9) (oi := _) (v := ?_) rfl (by kernel_rfl) (by kernel_rfl) (by kernel_rfl) (by kernel_rfl) (fun _ _ _ h => h) (Or.inl ⟨by rfl, ?_⟩) (fun _ => hHeld) ?_
        rotate_left
        · intro w' hSw; try dsimp only at hSw
          go_simp
          try with_reducible rfl
        try simp only [puts, gets]
        refine anyL_take (i := 10) (oi := _) (v := ?_) rfl (by kernel_rfl) (by kernel_rfl) (by kernel_rfl) (by kernel_rfl) (fun _ _ _ h => h) (Or.inl ⟨by rfl, ?_⟩) (fun _ => hHeld) ?_
        rotate_left
        · intro w' hSw; try dsimp only at hSw
          go_simp
          try with_reducible rfl
        try simp only [puts, gets]
        refine anyL_next (i := 11) (by kernel_rfl) rfl (fun K hK => ?_)
        go_simp
        go_at_call 20
        refine rwrite_ts (OffDisk.keep hD (below_drew' (Below.refl _ _))) (IsBytes.keep tP (below_drew' (Below.refl _ _))) HWS hDl HBL.out ?_
        intro qa2 qc2 xa2 xc2 w8 h8 b8
        have b8 : Below wo.heap.size wo w8 := below_undrew b8
        obtain ⟨v0, v1, v2, vf0, vf1, vf2⟩ := Box3.of (block_keep gB b8)
        refine hK.out _ _ (fun _ => (HS _ b8)) (fun _ => ?_)
        have hHeld := (HS _ b8)
        clear hK K
        try simp only [puts, gets]
        refine anyL_take (i := 12) (oi := _) (v := ?_) rfl (by kernel_rfl) (by kernel_rfl) (by kernel_rfl) (by kernel_rfl) (fun _ _ _ h => h) (Or.inl ⟨by rfl, ?_⟩) (fun _ => hHeld) ?_
        rotate_left
        · intro w' hSw; try dsimp only at hSw
          go_simp
          try with_reducible rfl
        try simp only [puts, gets]
        refine anyL_take (i := 13) (oi := _) (v := ?_) rfl (by kernel_rfl) (by kernel_rfl) (by kernel_rfl) (by kernel_rfl) (fun _ _ _ h => h) (Or.inl ⟨by rfl, ?_⟩) (fun _ => hHeld) ?_
        rotate_left
        · intro w' hSw; try dsimp only at hSw
          go_simp
          try with_reducible rfl
        try simp only [puts, gets]
        refine anyL_take (i := 14) (oi := _) (v := ?_) rfl (by kernel_rfl) (by kernel_rfl) (by kernel_rfl) (by kernel_rfl) (fun _ _ _ h => h) (Or.inl ⟨by rfl, ?_⟩) (fun _ => hHeld) ?_
        rotate_left
        · intro w' hSw; try dsimp only at hSw
          go_simp
          try with_reducible rfl
        try simp only [puts, gets]
        refine anyL_next (i := 15) (by kernel_rfl) rfl (fun K hK => ?_)
        go_simp
        refine hK.out _ _ (stale (by kernel_rfl)) (fun _ => ?_)
        clear hK K
        try simp only [puts, gets]
        refine anyL_done (by kernel_rfl) ?_ _
        refine NoPanic.normal ?_
        have bZ := (((hB.trans (b8.mono hB.size)).setCell (p := ⟨w.heap.size, 0, none⟩) (by simp) (.slice qa2 (D i).pages.length qc2)).setCell (p := ⟨w.heap.size, 1, none⟩) (by simp) (.slice xa2 (D i).writes.length xc2)).setCell (p := ⟨w.heap.size, 2, none⟩) (by simp) (.bool (D i).down)
        have gZ := box_set3 (block_keep gB b8) (.slice qa2 (D i).pages.length qc2) (.slice xa2 (D i).writes.length xc2) (.bool (D i).down)
        have hZ := off_set3 h8 (.inl rfl) (.slice qa2 (D i).pages.length qc2) (.slice xa2 (D i).writes.length xc2) (.bool (D i).down)
        have gZR : ((((w8.setCell ⟨w.heap.size, 0, none⟩ (.slice qa2 (D i).pages.length qc2)).setCell ⟨w.heap.size, 1, none⟩ (.slice xa2 (D i).writes.length xc2)).setCell ⟨w.heap.size, 2, none⟩ (.bool (D i).down))).heap[w.heap.size + 1]? = some (.cells #[.slice none 0 0, .slice none 0 0, .bool false] 25 (0, 0)) := block_other (block_other (block_other (block_keep gR b8) (by omega)) (by omega)) (by omega)
        have hFZ := (((hF.keep b8).store (p := ⟨w.heap.size, 0, none⟩) (by simp) (.slice qa2 (D i).pages.length qc2)).store (p := ⟨w.heap.size, 1, none⟩) (by simp) (.slice xa2 (D i).writes.length xc2)).store (p := ⟨w.heap.size, 2, none⟩) (by simp) (.bool (D i).down)
        go_wp2
        go_roundw
        case rel => exact ⟨i, by omega, by go_num, ⟨_, _, _, _, gZ, hZ⟩, gZR, hFZ, bZ⟩
        case measure => simp [intOf]
set_option maxHeartbeats 2000000 in
set_option maxRecDepth 100000 in
theorem rClear_any (v : Value) (d : Dk) (k : Int) (w : World) (h : IsDisk w v d) (hwl : d.writes.length ≤ 1000000) : Calls Try.prog 49 #[v, .int .i64 k] w (DiskErr (writeD d k []) w) := by
  have h0 := h
  obtain ⟨pa, pc, wa, wk, rfl, -, -, -⟩ := h.shape
  have b1 := below_new w (.cells #[.slice pa d.pages.length pc, .slice wa d.writes.length wk, .bool d.down] 25)
  have b2 := below_new (w.alloc (.cells #[.slice pa d.pages.length pc, .slice wa d.writes.length wk, .bool d.down] 25)) (.cells #[.slice none 0 0, .slice none 0 0, .bool false] 25)
  have b0 := below_trans b1 b2
  have g0 := block_keep (heap_alloc_new w (.cells #[.slice pa d.pages.length pc, .slice wa d.writes.length wk, .bool d.down] 25)) b2
  have g1 := box_at2 w (.slice pa d.pages.length pc) (.slice wa d.writes.length wk) (.bool d.down)
  obtain ⟨wb, hwb⟩ : ∃ x : World, x = (w.alloc (.cells #[.slice pa d.pages.length pc, .slice wa d.writes.length wk, .bool d.down] 25)).alloc (.cells #[.slice none 0 0, .slice none 0 0, .bool false] 25) := ⟨_, rfl⟩
  rw [← hwb] at b0 g0 g1
  clear b1 b2
  obtain ⟨y0, y1, y2, -, -, -⟩ := Box3.of g0
  have e1 := block_lt g1
  have ho := h0.off (B := fun i => i = w.heap.size + 1) b0 (by rintro β rfl; omega)
  obtain ⟨dd, hdd⟩ : ∃ dd, (writeD d k []).1 = dd := ⟨_, rfl⟩
  obtain ⟨er, her⟩ : ∃ er, (writeD d k []).2 = er := ⟨_, rfl⟩
  have HW := Lib.hid (show writeD d k [] = (dd, er) from Prod.ext hdd her)
  clear hdd her
  go_enter Try.func49, Try.ntmps49
  go_wp2_with fail
  rw [← hwb]
  clear hwb
  (with_reducible refine rwrite_ts ho (IsBytes.nil _) HW (by omega) (by rintro β rfl; exact e1) ?_)
  intro pa2 pc2 wa2 wk2 w1 ho2 b1
  clear y0 y1 y2
  have gz := block_keep g1 b1
  have bA := below_new w1 (.cells #[.slice pa2 dd.pages.length pc2, .slice wa2 dd.writes.length wk2, .bool dd.down] 25)
  have gA := heap_alloc_new w1 (.cells #[.slice pa2 dd.pages.length pc2, .slice wa2 dd.writes.length wk2, .bool dd.down] 25)
  obtain ⟨w2, hw2⟩ : ∃ x : World, x = w1.alloc (.cells #[.slice pa2 dd.pages.length pc2, .slice wa2 dd.writes.length wk2, .bool dd.down] 25) := ⟨_, rfl⟩
  rw [← hw2] at bA gA
  have gz2 := block_keep gz bA
  obtain ⟨u0, u1, u2, uf0, uf1, uf2⟩ := Box3.of gz2
  obtain ⟨x0, x1, x2, -, -, -⟩ := Box3.of gA
  have ho3 := off_set3 (ho2.keep bA) (β := w.heap.size + 1) rfl (.slice pa2 dd.pages.length pc2) (.slice wa2 dd.writes.length wk2) (.bool dd.down)
  have bF := (((below_trans b0 (below_trans b1 bA)).setCell (p := ⟨w.heap.size + 1, 0, none⟩) (by simp) (.slice pa2 dd.pages.length pc2)).setCell (p := ⟨w.heap.size + 1, 1, none⟩) (by simp) (.slice wa2 dd.writes.length wk2)).setCell (p := ⟨w.heap.size + 1, 2, none⟩) (by simp) (.bool dd.down)
  go_upto_region 2 with fail
  rw [← hw2]
  clear hw2
  go_wp2
  refine bodyPost_ret (v := .tuple #[.agg #[.slice pa2 dd.pages.length pc2, .slice wa2 dd.writes.length wk2, .bool dd.down], .int .i64 er]) (by simp [results, Try.results49, go_sem, u0, u1, u2]) rfl ?_
  exact ⟨_, by rw [HW.out], by rw [HW.out]; exact ho3.is, bF⟩
end Go.Proofs.Ytcembocnkndlhaa
/- How the rows' arguments read: numbers, bytes, disks. -/
namespace Go.Proofs.Ytcembocnkndlhaa
open Go.ChangeShapes Go.WideShapes Go.ChangeAt Go.RowKit Go.Deep
theorem wf_41 {z : Int} (h : (Lit.int .u16 z).wf = true) : 0 ≤ z ∧ z < 65536 := by
  simp [Lit.wf, IntKind.min, IntKind.max, IntKind.signed, IntKind.bits] at h; omega
theorem wf_5 {z : Int} (h : (Lit.int .u8 z).wf = true) : 0 ≤ z ∧ z < 256 := by
  simp [Lit.wf, IntKind.min, IntKind.max, IntKind.signed, IntKind.bits] at h; omega
theorem wf_46 {z : Int} (h : (Lit.int .i8 z).wf = true) : -128 ≤ z ∧ z < 128 := by
  simp [Lit.wf, IntKind.min, IntKind.max, IntKind.signed, IntKind.bits] at h; omega
theorem own : ownKnob Try.prog.godebug = none := by kernel_rfl
theorem laidOut : laidOutB Try.prog = true := by kernel_rfl
section
variable {H : Type} {enc : TypeId × Value → H} {W : World}
/-- Whatever reads as type t: its cells. -/
abbrev Rd (enc : TypeId × Value → H) (W : World) (n : Nat) (t : TypeId) (cs : List Value) : Prop := ∃ y, DataW.trod enc Try.prog W 0 (fun _ => true) true n t cs = some y
theorem rd_int {n : Nat} {t : TypeId} {cs : List Value} (ht : Try.prog.underlying t = some (.int .i64)) (h : Rd enc W n t cs) : ∃ z, cs = [.int .i64 z] := by
  obtain ⟨y, h⟩ := h
  obtain ⟨z, e, _⟩ := DataW.trod_int ht h
  exact ⟨z, e⟩
theorem rd_u8 {n : Nat} {t : TypeId} {cs : List Value} (ht : Try.prog.underlying t = some (.int .u8)) (h : Rd enc W n t cs) : ∃ z : Int, cs = [.int .u8 z] ∧ 0 ≤ z ∧ z < 256 := by
  obtain ⟨y, h⟩ := h
  obtain ⟨z, e, _, hw⟩ := DataW.trod_int ht h
  simp [Lit.wf, IntKind.min, IntKind.max, IntKind.signed, IntKind.bits] at hw
  exact ⟨z, e, by omega, by omega⟩
theorem rd_bool {n : Nat} {t : TypeId} {cs : List Value} (ht : Try.prog.underlying t = some .bool) (h : Rd enc W n t cs) : ∃ b, cs = [.bool b] := by
  obtain ⟨y, h⟩ := h
  obtain ⟨z, e, _⟩ := DataW.trod_bool ht h
  exact ⟨z, e⟩
theorem rd_field {n : Nat} {t : TypeId} {cs : List Value} {fs : Array Field} (ht : Try.prog.underlying t = some (.struct fs)) (h : Rd enc W n t cs) :
    cs.length = Try.prog.cellsOf t ∧ ∃ m, ∀ (i : Nat) (f : Field), fs[i]? = some f → Rd enc W m f.type ((cs.drop f.offset).take (Try.prog.cellsOf f.type)) := by
  obtain ⟨y, h⟩ := h
  obtain ⟨xs, m, _, _, hl, hxl, hf⟩ := DataW.trod_struct ht h
  refine ⟨hl, m, fun i f hi => ?_⟩
  have := hf i f hi
  have hlt : i < xs.length := by rw [hxl]; exact (Array.getElem?_eq_some_iff.1 hi).1
  exact ⟨xs[i], by rw [this]; exact List.getElem?_eq_getElem hlt⟩
/-- A slice whose elements read. -/
theorem rd_slice {α : Type} {n : Nat} {t e k : Nat} {cs : List Value} (en : α → List Value) (ok : α → Prop) (ht : Try.prog.underlying t = some (.slice e)) (hk : Try.prog.cellsOf e = k) (hk0 : 0 < k)
    (hel : ∀ m cs, Rd enc W m e cs → ∃ x, cs = en x ∧ ok x) (h : Rd enc W n t cs) : ∃ v l, cs = [v] ∧ IsRows k en W v l ∧ ∀ x ∈ l, ok x := by
  obtain ⟨y, h⟩ := h
  rcases open_slice ht h with ⟨hcs, _⟩ | ⟨a, len, cap, m, n', D, Pl, hcs, _, hl, hm, hmm, _, hi⟩
  · exact ⟨_, [], hcs, ⟨none, 0, rfl, .inl rfl, by simp, by simp, by simp⟩, by simp⟩
  · simp only [if_true] at hmm
    subst hmm
    rw [hk] at hi
    have key : ∀ i, i < len → ∃ x, ok x ∧ ∀ j u, (en x)[j]? = some u → W.cell? ((a.add (i * k)).add j) = some u := by
      intro i hil
      obtain ⟨cs', hc, ht'⟩ := hi i (by omega)
      obtain ⟨_, hcl, hat⟩ := World.cells?_some hc
      obtain ⟨x, hx, hox⟩ := hel _ _ ⟨_, ht'⟩
      refine ⟨x, hox, fun j u hj => ?_⟩
      rw [← hx] at hj
      have hjl : j < k := by have := (List.getElem?_eq_some_iff.1 hj).1; omega
      rw [hat j hjl, hj]
    have hlen : ∀ i, i < len → ∃ x, ok x ∧ (en x).length = k := by
      intro i hil
      obtain ⟨cs', hc, ht'⟩ := hi i (by omega)
      obtain ⟨_, hcl, hat⟩ := World.cells?_some hc
      obtain ⟨x, hx, hox⟩ := hel _ _ ⟨_, ht'⟩
      exact ⟨x, hox, by rw [← hx]; exact hcl⟩
    have hlm : len ≤ 9223372036854775807 := by unfold maxLen at hm; omega
    rcases Nat.eq_zero_or_pos len with h0 | h0
    · subst h0
      exact ⟨_, [], hcs, ⟨some a, m, rfl, .inl rfl, by simp, by simp, by unfold maxLen at hm; omega⟩, by simp⟩
    · obtain ⟨x0, hox0, _⟩ := key 0 h0
      have key' : ∀ i, ∃ x, i < len → (ok x ∧ ∀ j u, (en x)[j]? = some u → W.cell? ((a.add (i * k)).add j) = some u) := by
        intro i
        by_cases h : i < len
        · obtain ⟨x, hx⟩ := key i h
          exact ⟨x, fun _ => hx⟩
        · exact ⟨x0, fun h' => absurd h' h⟩
      let f : Nat → α := fun i => Classical.choose (key' i)
      have hf : ∀ i, i < len → (ok (f i) ∧ ∀ j u, (en (f i))[j]? = some u → W.cell? ((a.add (i * k)).add j) = some u) := fun i => Classical.choose_spec (key' i)
      obtain ⟨b, off, spot⟩ := a
      have hsp : spot = none := by
        obtain ⟨cs', hc, ht'⟩ := hi 0 (by omega)
        obtain ⟨_, hcl, hat⟩ := World.cells?_some hc
        have h1 := hat 0 hk0
        rw [List.getElem?_eq_getElem (by omega)] at h1
        simpa [Addr.add] using World.cell?_spot h1
      subst hsp
      refine ⟨_, (List.range len).map f, hcs, ⟨some ⟨b, off, none⟩, m, by simp, .inr ⟨b, off, rfl, fun i x hix j u hj => ?_⟩, by simpa using hlm, by simpa using hl, by unfold maxLen at hm; omega⟩, ?_⟩
      · rw [List.getElem?_map] at hix
        obtain ⟨i', hi', rfl⟩ := Option.map_eq_some_iff.1 hix
        have hlt : i < len := by have := (List.getElem?_eq_some_iff.1 hi').1; simpa using this
        rw [List.getElem?_range hlt] at hi'
        obtain rfl : i = i' := by simpa using hi'
        have := (hf i hlt).2 j u hj
        have e : ((⟨b, off, none⟩ : Addr).add (i * k)).add j = ⟨b, off + i * k + j, none⟩ := by
          rw [Go.Deep.add_add]
          unfold Addr.add
          split
          · rename_i h; simp at h; simp
          · simp [Nat.add_assoc]
        rwa [e] at this
      · intro x hx
        obtain ⟨i, hi', rfl⟩ := List.mem_map.1 hx
        exact (hf i (by simpa using hi')).1
theorem rd_bytes {n : Nat} {cs : List Value} (h : Rd enc W n 26 cs) : ∃ v l, cs = [v] ∧ IsBytes W v l := by
  obtain ⟨v, l, e, hr, _⟩ := rd_slice (α := UInt8) encB (fun _ => True) Try.underlying26 (show Try.prog.cellsOf 5 = 1 by kernel_rfl) (by decide) (fun m cs h => by
    obtain ⟨z, e, h0, h1⟩ := rd_u8 Try.underlying5 h
    refine ⟨UInt8.ofNat z.toNat, ?_, trivial⟩
    rw [e]
    unfold encB
    have : ((UInt8.ofNat z.toNat).toNat : Int) = z := by
      rw [UInt8.toNat_ofNat']
      omega
    rw [this]) h
  exact ⟨v, l, e, hr⟩
theorem all_choose {α β : Type} {P : α → β → Prop} : ∀ (l : List α), (∀ x ∈ l, ∃ y, P x y) → ∃ L : List β, l.length = L.length ∧ ∀ (i : Nat) (x : α) (y : β), l[i]? = some x → L[i]? = some y → P x y
  | [], _ => ⟨[], rfl, by simp⟩
  | x :: r, h => by
    obtain ⟨y, hy⟩ := h x (by simp)
    obtain ⟨L, hl, hL⟩ := all_choose r fun z hz => h z (by simp [hz])
    refine ⟨y :: L, by simp [hl], fun i u v hu hv => ?_⟩
    cases i with
    | zero => simp at hu hv; subst hu hv; exact hy
    | succ i => exact hL i u v (by simpa using hu) (by simpa using hv)
theorem rd_pages {n : Nat} {cs : List Value} (h : Rd enc W n 22 cs) : ∃ v L, cs = [v] ∧ IsPages W v L := by
  obtain ⟨v, vs, e, hr, ho⟩ := rd_slice (α := Value) encV (fun u => ∃ l, IsBytes W u l) Try.underlying22 (show Try.prog.cellsOf 26 = 1 by kernel_rfl) (by decide) (fun m cs h => by
    obtain ⟨u, l, e, hb⟩ := rd_bytes h
    exact ⟨u, e, l, hb⟩) h
  obtain ⟨L, hl, hL⟩ := all_choose vs ho
  exact ⟨v, L, e, vs, hr, hl, hL⟩
theorem c3 : Try.prog.cellsOf 3 = 1 := by kernel_rfl
theorem c4 : Try.prog.cellsOf 4 = 1 := by kernel_rfl
theorem c22 : Try.prog.cellsOf 22 = 1 := by kernel_rfl
theorem c23 : Try.prog.cellsOf 23 = 1 := by kernel_rfl
theorem c26 : Try.prog.cellsOf 26 = 1 := by kernel_rfl
theorem c49 : Try.prog.cellsOf 49 = 2 := by kernel_rfl
theorem c25 : Try.prog.cellsOf 25 = 3 := by kernel_rfl
theorem len2 {cs : List Value} (h : cs.length = 2) : ∃ a b, cs = [a, b] := by
  match cs, h with
  | [a, b], _ => exact ⟨a, b, rfl⟩
theorem len3 {cs : List Value} (h : cs.length = 3) : ∃ a b c, cs = [a, b, c] := by
  match cs, h with
  | [a, b, c], _ => exact ⟨a, b, c, rfl⟩
set_option maxRecDepth 100000 in
theorem rd_writes {n : Nat} {cs : List Value} (h : Rd enc W n 23 cs) : ∃ v L, cs = [v] ∧ IsWrites W v L := by
  obtain ⟨v, vs, e, hr, ho⟩ := rd_slice (α := Int × Value) encW (fun p => ∃ l, IsBytes W p.2 l) Try.underlying23 c49 (by decide) (fun m cs h => by
    obtain ⟨hl, m, hf⟩ := rd_field Try.underlying49 h
    have h0 : Rd enc W m 3 ((cs.drop 0).take (Try.prog.cellsOf 3)) := hf 0 _ rfl
    have h1 : Rd enc W m 26 ((cs.drop 1).take (Try.prog.cellsOf 26)) := hf 1 _ rfl
    rw [c49] at hl
    obtain ⟨a, b, rfl⟩ := len2 hl
    rw [c3] at h0
    rw [c26] at h1
    obtain ⟨x, e0⟩ := rd_int Try.underlying3 h0
    obtain ⟨u, l, e1, hb⟩ := rd_bytes h1
    simp at e0 e1
    exact ⟨(x, u), by rw [e0, e1]; rfl, l, hb⟩) h
  obtain ⟨L, hl, hL⟩ := all_choose (P := fun (p : Int × Value) (x : Wt) => p.1 = x.at_ ∧ IsBytes W p.2 x.data) vs fun p hp => by
    obtain ⟨l, hl⟩ := ho p hp
    exact ⟨⟨p.1, l⟩, rfl, hl⟩
  exact ⟨v, L, e, vs, hr, hl, hL⟩
/-! ### the arguments -/
section
variable {base : Nat} {v : Value} {d : DataW H} {p : List MemPlace}
set_option maxRecDepth 100000 in
theorem disk_of_read (hv : Value.okWide Try.prog W .any base 25 v) (h : DataW.Trod enc Try.prog W 0 (fun _ => true) true 25 v d p) : ∃ D, IsDisk W v D := by
  obtain ⟨cs, rfl, _⟩ := okWide_struct Try.underlying25 hv
  obtain ⟨fuel, hf⟩ := h
  obtain ⟨hl, m, hff⟩ := rd_field Try.underlying25 ⟨_, hf⟩
  have h0 : Rd enc W m 22 (((Value.agg cs).cells.toList.drop 0).take (Try.prog.cellsOf 22)) := hff 0 _ rfl
  have h1 : Rd enc W m 23 (((Value.agg cs).cells.toList.drop 1).take (Try.prog.cellsOf 23)) := hff 1 _ rfl
  have h2 : Rd enc W m 4 (((Value.agg cs).cells.toList.drop 2).take (Try.prog.cellsOf 4)) := hff 2 _ rfl
  rw [c25] at hl
  rw [c22] at h0
  rw [c23] at h1
  rw [c4] at h2
  have hcs : (Value.agg cs).cells.toList = cs.toList := rfl
  rw [hcs] at hl h0 h1 h2
  obtain ⟨a, b, c, e⟩ := len3 hl
  rw [e] at h0 h1 h2
  obtain ⟨x, l, e0, k0⟩ := rd_pages h0
  obtain ⟨y, m, e1, k1⟩ := rd_writes h1
  obtain ⟨z, e2⟩ := rd_bool Try.underlying4 h2
  simp at e0 e1 e2
  refine ⟨⟨l, m, z⟩, x, y, ?_, k0, k1⟩
  congr 1
  apply Array.toList_inj.1
  rw [e, e0, e1, e2]
set_option maxRecDepth 100000 in
theorem bytes_of_read (hv : Value.okWide Try.prog W .any base 26 v) (h : DataW.Trod enc Try.prog W 0 (fun _ => true) true 26 v d p) : ∃ l, IsBytes W v l := by
  obtain ⟨a0, len0, cap0, rfl⟩ := okWide_slice Try.underlying26 hv
  obtain ⟨fuel, hf⟩ := h
  obtain ⟨u, l, e, hr⟩ := rd_bytes ⟨_, hf⟩
  have : u = .slice a0 len0 cap0 := by simpa [Value.cells] using e.symm
  exact ⟨l, this ▸ hr⟩
end
end
end Go.Proofs.Ytcembocnkndlhaa
