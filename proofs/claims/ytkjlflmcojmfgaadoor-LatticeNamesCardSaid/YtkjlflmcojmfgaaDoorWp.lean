/- The walks of table, closed. -/
import Derived.Test.YtkjlflmcojmfgaaDoorPush
namespace Go.Proofs.YtkjlflmcojmfgaaDoor
open Go.RowKit
def tabTo (n : Nat) (y : List UInt8) (k : Nat) : List Nat := (List.range k).map fun a => (y.getD a 0).toNat % n
theorem tabTo_succ (n : Nat) (y : List UInt8) (k : Nat) : tabTo n y (k + 1) = tabTo n y k ++ [(y.getD k 0).toNat % n] := by simp [tabTo, List.range_succ]
theorem tabTo_len (n : Nat) (y : List UInt8) (k : Nat) : (tabTo n y k).length = k := by simp [tabTo]
def ownAt (l : List Int) (w : World) (e : Ending) (w' : World) : Prop := ∃ a c, e = .returned (.slice a l.length c) ∧ IsInts w' (.slice a l.length c) l ∧ Below w.heap.size w w'
set_option maxHeartbeats 8000000 in
set_option maxRecDepth 100000 in
theorem table_any (v : Value) (L : Ltc) (yv : Value) (y : List UInt8) (w : World) (h : IsLtc w v L) (hy : IsBytes w yv y) (hn : L.elems.length ≤ 8) : Calls Tryd.prog 27 #[v, yv] w (ownAt (castI (tabTo L.elems.length y L.elems.length)) w) := by
  have hy0 := hy
  obtain ⟨ya, yc, rfl, n1, n2, n3⟩ := IsRows.shape hy
  have h0 := h
  obtain ⟨ea, ec, ca, cc, rfl, -, -, m1, m2, m3⟩ := h.shape
  have g0 := heap_alloc_new w (.cells #[.string L.name.1, .slice ea L.elems.length ec, .slice ca L.covers.length cc, .int .i64 L.at_] 25)
  have b0 := below_new w (.cells #[.string L.name.1, .slice ea L.elems.length ec, .slice ca L.covers.length cc, .int .i64 L.at_] 25)
  obtain ⟨wb, hwb⟩ : ∃ x : World, x = w.alloc (.cells #[.string L.name.1, .slice ea L.elems.length ec, .slice ca L.covers.length cc, .int .i64 L.at_] 25) := ⟨_, rfl⟩
  rw [← hwb] at g0 b0
  obtain ⟨y0, y1, y2, y3⟩ := Box4.of g0
  have o0 := OwnI.lit wb [] (by decide)
  have bE := below_new wb (.cells #[] 3)
  go_enter Tryd.func27, Tryd.ntmps27
  go_upto_region 1 with fail
  rw [← hwb]
  clear hwb y0 y1 y2 y3
  go_wp2
  go_loopw [6, 5, 7] (fun i out _ wr => ∃ a : Nat, a ≤ L.elems.length ∧ i = .int .i64 a ∧ OwnI wr wb.heap.size out (castI (tabTo L.elems.length y a)) ∧ Below wb.heap.size wb wr) (fun i _ _ _ => L.elems.length - (intOf i).toNat)
  case atStart => exact ⟨0, Nat.zero_le _, rfl, o0, bE⟩
  case round =>
    clear o0 bE
    obtain ⟨a, ha, rfl, hO, bR⟩ := hrel
    obtain ⟨wo, rfl⟩ : ∃ wo : World, wo = wr := ⟨_, rfl⟩
    obtain ⟨oa, oc, rfl⟩ := hO.len
    have hol : (castI (tabTo L.elems.length y a)).length ≤ 1000000 := by rw [castI_length, tabTo_len]; omega
    have hsz := bR.size
    obtain ⟨y0, y1, y2, y3⟩ := Box4.of (block_keep g0 bR)
    by_cases hlt : a < L.elems.length
    · have hd : decide (a < L.elems.length) = true := decide_eq_true hlt
      have hn0 : (0 : Int) < (L.elems.length : Int) := by omega
      have hnI : (L.elems.length : Int) ≤ 8 := by omega
      by_cases hal : a < y.length
      · have hd2 : decide (a < y.length) = true := decide_eq_true hal
        obtain ⟨b1, of1, hye, hc⟩ := hy0.at_ (List.getElem?_eq_getElem hal)
        subst hye
        replace hc := cell_keep (below_trans b0 bR) hc
        have HV := Lib.hid (show y.getD a 0 = y[a] by rw [List.getD_eq_getElem?_getD, List.getElem?_eq_getElem hal]; rfl)
        generalize y[a] = c at *
        have hcb : c.toNat < 256 := c.toNat_lt
        have hmod : ((c.toNat : Int).tmod (L.elems.length : Int)) = ((c.toNat % L.elems.length : Nat) : Int) := rfl
        have hz : ((L.elems.length : Int) == 0) = false := beq_eq_false_iff_ne.2 (by omega)
        obtain ⟨q, hq⟩ : ∃ q, c.toNat % L.elems.length = q := ⟨_, rfl⟩
        rw [hq] at hmod
        have hkI : (a : Int) < (y.length : Int) := by omega
        have hk0 : (0 : Int) ≤ (a : Int) := by omega
        go_wp2_with (at_builtin; refine wpList_pushI (wr := wo) (x := (q : Int)) (g1 := wo.heap.size) rfl (.tmp 25) (.tmp 31) rfl rfl rfl hO (below_new _ _) (heap_alloc_new wo _) hsz hol ?_; intro g cap w8 hO8 b8)
        rw [← castI_snoc] at hO8
        go_roundw
        case rel => exact ⟨a + 1, by omega, by go_num, by rw [tabTo_succ, HV.out, hq]; simpa [castI_length] using hO8, bR.trans b8⟩
        case measure => simp [intOf]; omega
      · have hd2 : decide (a < y.length) = false := decide_eq_false hal
        have HV := Lib.hid (show y.getD a 0 = 0 by rw [List.getD_eq_getElem?_getD, List.getElem?_eq_none (by omega)]; rfl)
        have hmod : ((0 : Int).tmod (L.elems.length : Int)) = ((0 % L.elems.length : Nat) : Int) := rfl
        have hz : ((L.elems.length : Int) == 0) = false := beq_eq_false_iff_ne.2 (by omega)
        rw [Nat.zero_mod] at hmod
        go_wp2_with (at_builtin; refine wpList_pushI (wr := wo) (x := 0) (g1 := wo.heap.size) rfl (.tmp 25) (.tmp 31) rfl rfl rfl hO (below_new _ _) (heap_alloc_new wo _) hsz hol ?_; intro g cap w8 hO8 b8)
        go_roundw
        case rel => exact ⟨a + 1, by omega, by go_num, by rw [tabTo_succ, HV.out, castI_snoc]; simpa [castI_length] using hO8, bR.trans b8⟩
        case measure => simp [intOf]; omega
    · have e : a = L.elems.length := by omega
      subst e
      have hd : decide (L.elems.length < L.elems.length) = false := decide_eq_false hlt
      go_wp2
      go_ret
      exact ⟨oa, oc, rfl, hO.is (by omega), below_trans b0 bR⟩
def upk (o : Rl2) (t : List Nat) (a b : Nat) : List Nat := ((List.range b).filter fun x => o x a).map fun x => t.getD x 0
theorem upk_succ (o : Rl2) (t : List Nat) (a b : Nat) : upk o t a (b + 1) = if o b a = true then upk o t a b ++ [t.getD b 0] else upk o t a b := by
  unfold upk
  rw [List.range_succ, List.filter_append, List.filter_cons, List.filter_nil, List.map_append]
  by_cases h : o b a = true
  · rw [if_pos h, if_pos h]; rfl
  · rw [if_neg h, if_neg h]; simp
theorem upk_len (o : Rl2) (t : List Nat) (a b : Nat) : (upk o t a b).length ≤ b := by
  unfold upk; rw [List.length_map]; exact Nat.le_trans (List.length_filter_le _ _) (by simp)
def cloTo (n : Nat) (o : Rl2) (t : List Nat) (k : Nat) : List Nat := (List.range k).map fun a => (lub n o (upk o t a n)).toNat
theorem cloTo_succ (n : Nat) (o : Rl2) (t : List Nat) (k : Nat) : cloTo n o t (k + 1) = cloTo n o t k ++ [(lub n o (upk o t k n)).toNat] := by simp [cloTo, List.range_succ]
theorem cloTo_len (n : Nat) (o : Rl2) (t : List Nat) (k : Nat) : (cloTo n o t k).length = k := by simp [cloTo]
set_option maxHeartbeats 8000000 in
set_option maxRecDepth 100000 in
theorem closedT_any (v : Value) (L : Ltc) (fv : Value) (t : List Nat) (w : World) (h : IsLtc w v L) (hf : IsInts w fv (castI t)) (hK : KeysAt w 0) (HCK : Hid (checkL L = 0)) (htl : t.length ≤ L.elems.length) (htl2 : L.elems.length ≤ t.length) (HTN : Hid (∀ x ∈ t, x < L.elems.length)) : Calls Tryd.prog 28 #[v, fv] w (ownAt (castI (cloTo L.elems.length (ordL L) t L.elems.length)) w) := by
  have hf0 := hf
  have hn8 := (args_parts (check_zero HCK.out).1).1
  have HLAT := Lib.hid (lat_ok HCK.out)
  have hcl : (castI t).length ≤ t.length := by rw [castI_length]; exact Nat.le_refl _
  have hcl2 : t.length ≤ (castI t).length := by rw [castI_length]; exact Nat.le_refl _
  obtain ⟨fa, fc, rfl, n1, n2, n3⟩ := IsRows.shape hf
  have h0 := h
  obtain ⟨ea, ec, ca, cc, rfl, -, -, m1, m2, m3⟩ := h.shape
  have g0 := heap_alloc_new w (.cells #[.string L.name.1, .slice ea L.elems.length ec, .slice ca L.covers.length cc, .int .i64 L.at_] 25)
  have b0 := below_new w (.cells #[.string L.name.1, .slice ea L.elems.length ec, .slice ca L.covers.length cc, .int .i64 L.at_] 25)
  obtain ⟨wb, hwb⟩ : ∃ x : World, x = w.alloc (.cells #[.string L.name.1, .slice ea L.elems.length ec, .slice ca L.covers.length cc, .int .i64 L.at_] 25) := ⟨_, rfl⟩
  rw [← hwb] at g0 b0
  obtain ⟨y0, y1, y2, y3⟩ := Box4.of g0
  have o0 := OwnI.lit wb [] (by decide)
  have bE := below_new wb (.cells #[] 3)
  go_enter Tryd.func28, Tryd.ntmps28
  go_upto_region 1 with fail
  rw [← hwb]
  clear hwb y0 y1 y2 y3
  go_wp2
  go_loopw [6, 5] (fun i out wr => ∃ a : Nat, a ≤ L.elems.length ∧ i = .int .i64 a ∧ OwnI wr wb.heap.size out (castI (cloTo L.elems.length (ordL L) t a)) ∧ Below wb.heap.size wb wr) (fun i _ _ => L.elems.length - (intOf i).toNat)
  case atStart => exact ⟨0, Nat.zero_le _, rfl, o0, bE⟩
  case round =>
    clear o0 bE
    obtain ⟨a, ha, rfl, hO, bR⟩ := hrel
    obtain ⟨wo, rfl⟩ : ∃ wo : World, wo = wr := ⟨_, rfl⟩
    obtain ⟨oa, oc, rfl⟩ := hO.len
    have hol : (castI (cloTo L.elems.length (ordL L) t a)).length ≤ 1000000 := by rw [castI_length, cloTo_len]; omega
    by_cases hlt : a < L.elems.length
    · have hd : decide (a < (castI t).length) = true := decide_eq_true (by omega)
      have o1 := OwnI.lit wo [] (by decide)
      have bE := below_new wo (.cells #[] 3)
      have HO := Lib.hid hO
      clear hO
      go_wp2
      go_loopw [8, 7] (fun i l wr => ∃ b : Nat, b ≤ L.elems.length ∧ i = .int .i64 b ∧ OwnI wr wo.heap.size l (castI (upk (ordL L) t a b)) ∧ Below wo.heap.size wo wr) (fun i _ _ => L.elems.length - (intOf i).toNat)
      case atStart => exact ⟨0, Nat.zero_le _, rfl, o1, bE⟩
      case round =>
        clear o1 bE
        obtain ⟨b, hb, rfl, hI, bS⟩ := hrel
        obtain ⟨wp, rfl⟩ : ∃ wp : World, wp = wr := ⟨_, rfl⟩
        obtain ⟨pa, pc, rfl⟩ := hI.len
        have hul := upk_len (ordL L) t a b
        have hil : (castI (upk (ordL L) t a b)).length ≤ 1000000 := by rw [castI_length]; omega
        have bT := below_trans bR bS
        have HI := Lib.hid hI
        clear hI
        obtain ⟨y0, y1, y2, y3⟩ := Box4.of (block_keep g0 bT)
        by_cases hltb : b < L.elems.length
        · have hdb : decide (b < (castI t).length) = true := decide_eq_true (by omega)
          have hbt : b < t.length := by omega
          have hcr : (castI t)[b]? = some ((t[b] : Nat) : Int) := by unfold castI; rw [List.getElem?_map, List.getElem?_eq_getElem hbt]; rfl
          obtain ⟨b1, of1, hfe, hc⟩ := hf0.at_ hcr
          subst hfe
          have HGD := Lib.hid (show t.getD b 0 = t[b] by rw [List.getD_eq_getElem?_getD, List.getElem?_eq_getElem hbt]; rfl)
          generalize t[b] = x at *
          clear hcr
          have hkI : (b : Int) < ((castI t).length : Int) := by omega
          have hk0 : (0 : Int) ≤ (b : Int) := by omega
          cases hba : ordL L b a
          · have HBA := Lib.hid hba
            clear hba
            go_wp2_with fail
            refine (leq_at HCK (h0.keep (keeps_below (below_trans b0 bT))) (hK.keep (keeps_below (below_trans b0 bT))) hltb hlt).mono ?_
            rintro e w7 ⟨rfl, b7⟩
            rw [HBA.out]
            go_wp2
            go_roundw
            case rel => exact ⟨b + 1, by omega, by go_num, by rw [upk_succ, if_neg (by rw [HBA.out]; decide)]; exact HI.out.keep b7, below_trans bS b7⟩
            case measure => simp [intOf]; omega
          · have HBA := Lib.hid hba
            clear hba
            go_wp2_with fail
            refine (leq_at HCK (h0.keep (keeps_below (below_trans b0 bT))) (hK.keep (keeps_below (below_trans b0 bT))) hltb hlt).mono ?_
            rintro e w7 ⟨rfl, b7⟩
            rw [HBA.out]
            have hI7 := HI.out.keep b7
            have b57 := below_trans bS b7
            have hs57 := b57.size
            have hc7 := cell_keep (below_trans (below_trans b0 bT) b7) hc
            clear HI y0 y1 y2 y3
            go_wp2_with (at_builtin; refine wpList_pushI (wr := w7) (x := (x : Int)) (g1 := w7.heap.size) rfl (.tmp 27) (.tmp 32) rfl rfl rfl hI7 (below_new _ _) (heap_alloc_new w7 _) hs57 hil ?_; intro g cap w8 hO8 b8)
            rw [← castI_snoc] at hO8
            go_roundw
            case rel => exact ⟨b + 1, by omega, by go_num, by rw [upk_succ, if_pos HBA.out, HGD.out]; simpa [castI_length] using hO8, b57.trans b8⟩
            case measure => simp [intOf]; omega
        · have e : b = L.elems.length := by omega
          subst e
          have hdb : decide (L.elems.length < (castI t).length) = false := decide_eq_false (by omega)
          have HUN := Lib.hid (show ∀ x ∈ upk (ordL L) t a L.elems.length, x < L.elems.length from fun x hx => by
            unfold upk at hx
            obtain ⟨c, hc, rfl⟩ := List.mem_map.1 hx
            have hcn := List.mem_range.1 (List.mem_filter.1 hc).1
            rw [List.getD_eq_getElem?_getD, List.getElem?_eq_getElem (by omega : c < t.length)]
            exact HTN.out _ (List.getElem_mem _))
          obtain ⟨m, hm, -⟩ := HLAT.out.lub_is HUN.out
          have HM := Lib.hid hm
          have HTO := Lib.hid (show (lub L.elems.length (ordL L) (upk (ordL L) t a L.elems.length)).toNat = m by rw [hm]; simp)
          clear hm
          have hLI := HI.out.is (by omega)
          go_wp2_with fail
          refine (lub_at (l := upk (ordL L) t a L.elems.length) (h0.keep (keeps_below (below_trans b0 bT))) hLI (hK.keep (keeps_below (below_trans b0 bT))) HCK HUN.out).mono ?_
          rintro e w7 ⟨rfl, b7⟩
          rw [HM.out]
          have b57 := below_trans bS b7
          have hO7 := HO.out.keep b57
          have bR7 := below_trans bR b57
          have hs7 := bR7.size
          clear HI HO hLI y0 y1 y2 y3
          go_wp2_with (at_builtin; refine wpList_pushI (wr := w7) (x := (m : Int)) (g1 := w7.heap.size) rfl (.tmp 34) (.tmp 38) rfl rfl rfl hO7 (below_new _ _) (heap_alloc_new w7 _) hs7 hol ?_; intro g cap w8 hO8 b8)
          rw [← castI_snoc] at hO8
          go_roundw
          case rel => exact ⟨a + 1, by omega, by go_num, by rw [cloTo_succ, HTO.out]; simpa [castI_length] using hO8, bR7.trans b8⟩
          case measure => simp [intOf]; omega
    · have e : a = L.elems.length := by omega
      subst e
      have hd : decide (L.elems.length < (castI t).length) = false := decide_eq_false (by omega)
      go_wp2
      go_ret
      exact ⟨oa, oc, rfl, hO.is (by omega), below_trans b0 bR⟩
end Go.Proofs.YtkjlflmcojmfgaaDoor
