/- Parts Yk: words, walks and laws that the claims of this seat share. -/
import Derived.Test.YtdibijhaiaiifaaDoorJ25
/- The walk of Build. -/
namespace Go.Proofs.YtdibijhaiaiifaaDoor
open Go.RowKit
def emptyT : Tr := .mk [] [] []
/-- What Build gives: canonical rows ns of xs, cut to the columns. -/
def BuildOf (columns : Int) (xs : List RR) (t : Tr) : Prop := if 0 ≤ columns ∧ columns ≤ 4 then ∃ ns, OpOf opU xs [] ns ∧ t = buildT columns.toNat ((rows ns).filter fun x => decide ((x.1.length : Int) = columns)) else t = emptyT
theorem rows_filter (P : Tp × List Sp → Bool) : ∀ l : List RR, rows (l.filter fun x => P (x.t, x.s)) = (rows l).filter P := fun l => by
  unfold rows
  rw [List.filter_map]
  rfl
set_option maxHeartbeats 4000000 in
set_option maxRecDepth 1000000 in
theorem Build_any (va : Value) (columns : Int) (xs : List RR) (w : World) (hT : Tab w) (ha : IsRel w va xs) (sa : Sml 10000 xs) :
    Calls Tryd.prog 57 #[.int .i64 columns, va] w fun e w' => ∃ t : TR, e = .returned (trV t) ∧ TrOk w' t ∧ Hid (BuildOf columns xs t.tr) ∧ Below w.heap.size w w' := by
  have SA := Lib.hid sa
  clear sa
  obtain ⟨w1, hw1⟩ : ∃ z, (w.alloc (.cells #[.int .i64 columns] 3)).alloc (.cells #[.slice none 0 0, .slice none 0 0, .slice none 0 0] 64) = z := ⟨_, rfl⟩
  have B1 : Below w.heap.size w w1 := by rw [← hw1]; exact below_alloc' (below_new _ _)
  have X2 : Cel w1 w.heap.size 3 [.int .i64 columns] := by rw [← hw1]; exact (Cel.new w 3 _).keep (below_new _ _)
  have X4 : Cel w1 (w.heap.size + 1) 64 [.slice none 0 0, .slice none 0 0, .slice none 0 0] := by
    have := Cel.new (w.alloc (.cells #[.int .i64 columns] 3)) 64 [.slice none 0 0, .slice none 0 0, .slice none 0 0]
    rw [World.size_alloc, hw1] at this
    exact this
  go_enter Tryd.func57, Tryd.ntmps57
  go_upto_region 1 with fail
  clear hw1
  obtain ⟨b2, hb2e⟩ : ∃ b, w.heap.size = b := ⟨_, rfl⟩
  obtain ⟨b4, hb4e⟩ : ∃ b, b2 + 1 = b := ⟨_, rfl⟩
  rw [hb2e, hb4e] at X4
  rw [hb2e] at X2
  rw [hb2e]
  rw [hb4e]
  have h4w : w.heap.size ≤ b4 := by omega
  have hb2l : b2 < w1.heap.size := X2.lt
  have hb4l : b4 < w1.heap.size := X4.lt
  have H24 := Lib.hid (show b2 ≠ b4 by omega)
  clear hb2e hb4e
  replace hT := hT.keep B1
  replace ha := ha.keep B1
  have q2 := X2.at_ (j := 0) rfl
  have x0 := X4.at_ (j := 0) rfl
  have x1 := X4.at_ (j := 1) rfl
  have x2 := X4.at_ (j := 2) rfl
  have f0 := X4.free 0
  have f1 := X4.free 1
  have f2 := X4.free 2
  by_cases hc : 0 ≤ columns ∧ columns ≤ 4
  · obtain ⟨hc0, hc4⟩ := hc
    have hc1 : decide (columns < 0) = false := decide_eq_false (by omega)
    have hc2 : decide (4 < columns) = false := decide_eq_false (by omega)
    have hd1 : ¬ columns < 0 := by omega
    have hd2 : ¬ 4 < columns := by omega
    go_wp2_with fail
    refine (UnionH_any va _ xs [] _ hT ha (IsRel.nil _) SA.out (Sml.nil _)).mono ?_
    rintro e w2 ⟨u, rfl, ns, HU, OU, B2⟩
    have HO := Lib.hid OU
    have SN := (OU.sml _ 0 SA.out (Sml.nil _)).mono (m := 10000) (by decide)
    have hnl := SN.len
    clear OU
    obtain ⟨pu, cu, rfl⟩ := HU.form
    replace X2 := X2.keep B2
    replace X4 := X4.keep B2
    replace q2 := X2.at_ (j := 0) rfl
    go_wp2_with fail
    refine (DeleteFunc_any 105 ⟨b2, 0, none⟩ (fun x => (x.t.length : Int) != columns) pu cu ns _ w1.heap.size w2 (enters_of Tryd.func105 (by kernel_rfl) rfl) (fun W hW x _ _ => build1_any x b2 columns W ((hW.cell (p := ⟨b2, 0, none⟩) (by exact hb2l)).trans q2)) HU B2.size (by omega) (fun k hk => hk)).mono ?_
    rintro e w3 ⟨u3, rfl, R3, B3⟩
    clear HU
    have q3 : w3.cell? ⟨b2, 0, none⟩ = some (.int .i64 columns) := (B3.cell (p := ⟨b2, 0, none⟩) hb2l).trans q2
    have B13 := B2.trans B3
    have X4' : Cel w3 b4 64 [.slice none 0 0, .slice none 0 0, .slice none 0 0] := (B3.block b4 hb4l).trans X4
    obtain ⟨D, hD⟩ : ∃ D, (ns.filter fun x => !((x.t.length : Int) != columns)) = D := ⟨_, rfl⟩
    rw [hD] at R3
    have HD := Lib.hid hD
    have hDl : D.length ≤ 10000 := by rw [← hD]; exact Nat.le_trans (List.length_filter_le _ _) hnl
    clear hD
    obtain ⟨p3, c3, rfl, -⟩ := (R3 w3 (Agree.refl _ _)).shape
    obtain ⟨n, rfl⟩ : ∃ n : Nat, columns = n := ⟨columns.toNat, by omega⟩
    have hn4 : n ≤ 4 := by omega
    have hDn : ∀ x ∈ D, x.t.length = n := fun x hx => by
      rw [← HD.out, List.mem_filter] at hx
      have := hx.2
      simp at this
      omega
    have hB := build_all n (by omega) (fun k => k = b4) p3 c3 D w3 (fun k h => by rw [h]; exact Nat.lt_of_lt_of_le hb4l B13.size) (fun W hW => R3 W (hW.mono fun k h => by rw [h]; exact hb4l)) hDn (by omega)
    have BW : Below w.heap.size w w3 := (below_trans B1 B2).trans (B3.mono B1.size)
    go_wp2_with fail
    refine hB.mono ?_
    clear hB
    rintro e w4 ⟨t, rfl, hT4, HT4, B4⟩
    have HT5 := Lib.hid hT4
    clear hT4
    unfold trV
    have X5 := X4'.keep B4
    have x0 := X5.at_ (j := 0) rfl
    have x1 := X5.at_ (j := 1) rfl
    have x2 := X5.at_ (j := 2) rfl
    have f0 := X5.free 0
    have f1 := X5.free 1
    have f2 := X5.free 2
    have Z := ((X5.set 0 t.vv).set 1 t.kv).set 2 t.wv
    have z0 := Z.at_ (j := 0) rfl
    have z1 := Z.at_ (j := 1) rfl
    have z2 := Z.at_ (j := 2) rfl
    have BZ := ((((BW.trans (B4.mono BW.size)).setCell (p := ⟨b4, 0, none⟩) h4w t.vv).setCell (p := ⟨b4, 1, none⟩) h4w t.kv).setCell (p := ⟨b4, 2, none⟩) h4w t.wv)
    have r0 : (fun k => k = b4) b4 := rfl
    have AZ := ((((Agree.refl (fun k => k = b4) w4).set (p := ⟨b4, 0, none⟩) (v := t.vv) r0).set (p := ⟨b4, 1, none⟩) (v := t.kv) r0).set (p := ⟨b4, 2, none⟩) (v := t.wv) r0)
    obtain ⟨wZ, hwZ⟩ : ∃ z, ((w4.setCell ⟨b4, 0, none⟩ t.vv).setCell ⟨b4, 1, none⟩ t.kv).setCell ⟨b4, 2, none⟩ t.wv = z := ⟨_, rfl⟩
    rw [hwZ] at z0 z1 z2 BZ AZ
    clear Z r0
    go_wp2
    try rw [hwZ]
    refine bodyPost_ret (v := .agg #[t.vv, t.kv, t.wv]) (by simp [results, Tryd.results57, go_sem, z0, z1, z2]) rfl ?_
    refine ⟨t, rfl, HT5.out wZ AZ, Lib.hid ?_, BZ⟩
    unfold BuildOf
    rw [if_pos ⟨by omega, by omega⟩]
    refine ⟨ns, HO.out, ?_⟩
    have hf : (fun x : RR => !((x.t.length : Int) != (n : Int))) = fun x => decide ((x.t.length : Int) = (n : Int)) := by
      funext x
      rw [Bool.eq_iff_iff]
      simp
    rw [HT4.out, ← HD.out, Int.toNat_natCast, hf]
    exact congrArg _ (rows_filter (fun y => decide ((y.1.length : Int) = (n : Int))) ns)
  · have HC := Lib.hid hc
    have Z := ((X4.set 0 (.slice none 0 0)).set 1 (.slice none 0 0)).set 2 (.slice none 0 0)
    have z0 := Z.at_ (j := 0) rfl
    have z1 := Z.at_ (j := 1) rfl
    have z2 := Z.at_ (j := 2) rfl
    have BZ := (((B1.setCell (p := ⟨b4, 0, none⟩) h4w (.slice none 0 0)).setCell (p := ⟨b4, 1, none⟩) h4w (.slice none 0 0)).setCell (p := ⟨b4, 2, none⟩) h4w (.slice none 0 0))
    obtain ⟨wZ, hwZ⟩ : ∃ z, ((w1.setCell ⟨b4, 0, none⟩ (.slice none 0 0)).setCell ⟨b4, 1, none⟩ (.slice none 0 0)).setCell ⟨b4, 2, none⟩ (.slice none 0 0) = z := ⟨_, rfl⟩
    rw [hwZ] at z0 z1 z2 BZ
    clear Z
    have fin : ∃ t : TR, Ending.returned (.agg #[.slice none 0 0, .slice none 0 0, .slice none 0 0]) = .returned (trV t) ∧ TrOk wZ t ∧ Hid (BuildOf columns xs t.tr) ∧ Below w.heap.size w wZ := ⟨noTr, rfl, noTr_ok _, Lib.hid (by unfold BuildOf; rw [if_neg HC.out]; rfl), BZ⟩
    by_cases hd1 : columns < 0
    · have hc1 : decide (columns < 0) = true := decide_eq_true hd1
      clear hc
      go_wp2
      try rw [hwZ]
      exact bodyPost_ret (v := .agg #[.slice none 0 0, .slice none 0 0, .slice none 0 0]) (by simp [results, Tryd.results57, go_sem, z0, z1, z2]) rfl fin
    · have hc1 : decide (columns < 0) = false := decide_eq_false hd1
      have hd2 : 4 < columns := by omega
      have hc2 : decide (4 < columns) = true := decide_eq_true hd2
      clear hc
      go_wp2
      try rw [hwZ]
      exact bodyPost_ret (v := .agg #[.slice none 0 0, .slice none 0 0, .slice none 0 0]) (by simp [results, Tryd.results57, go_sem, z0, z1, z2]) rfl fin
end Go.Proofs.YtdibijhaiaiifaaDoor
