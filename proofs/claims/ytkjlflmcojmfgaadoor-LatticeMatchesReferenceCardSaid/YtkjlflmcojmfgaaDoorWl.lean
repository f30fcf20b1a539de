/- The walk of Monotone. -/
import Derived.Test.YtkjlflmcojmfgaaDoorWk
namespace Go.Proofs.YtkjlflmcojmfgaaDoor
open Go.RowKit
def monoT (n : Nat) (o : Rl2) (t : List Int) : Bool := (List.range n).all fun a => (List.range n).all fun b => !o a b || o (t.getD a 0).toNat (t.getD b 0).toNat
def monoL (L : Ltc) (t : List Int) : Bool := decide (checkL L = 0) && decide (t.length = L.elems.length) && inAll L.elems.length t && monoT L.elems.length (ordL L) t
theorem getD_at {t : List Int} {a : Nat} {x : Int} (h : t[a]? = some x) : t.getD a 0 = x := by rw [List.getD_eq_getElem?_getD, h]; rfl
theorem monoT_false {n : Nat} {o : Rl2} {t : List Int} {a b x y : Nat} (ha : a < n) (hb : b < n) (hx : t[a]? = some (x : Int)) (hy : t[b]? = some (y : Int)) (ho : o a b = true) (h : o x y = false) : monoT n o t = false := by
  unfold monoT
  refine List.all_eq_false.2 ⟨a, List.mem_range.2 ha, ?_⟩
  rw [Bool.not_eq_true]
  refine List.all_eq_false.2 ⟨b, List.mem_range.2 hb, ?_⟩
  rw [getD_at hx, getD_at hy, Int.toNat_natCast, Int.toNat_natCast, ho, h]
  decide
def rowOk (n : Nat) (o : Rl2) (t : List Int) (a m : Nat) : Prop := ∀ b, b < m → b < n → o a b = true → o (t.getD a 0).toNat (t.getD b 0).toNat = true
theorem monoT_true {n : Nat} {o : Rl2} {t : List Int} (h : ∀ a, a < n → rowOk n o t a n) : monoT n o t = true := by
  unfold monoT
  refine List.all_eq_true.2 fun a ha => List.all_eq_true.2 fun b hb => ?_
  have ha := List.mem_range.1 ha
  have hb := List.mem_range.1 hb
  cases hab : o a b
  · rfl
  · rw [h a ha b hb hb hab]; rfl
theorem and_pred_lt {s : Int} (h0 : 0 < s) (h1 : s < 256) : 0 ≤ bits .and .u8 s (s - 1) ∧ bits .and .u8 s (s - 1) < s := by
  rw [u8_and _ _ (by omega) h1 (by omega) (by omega)]
  have : s.toNat &&& (s - 1).toNat ≤ (s - 1).toNat := Nat.and_le_right
  omega
set_option maxHeartbeats 8000000 in
set_option maxRecDepth 100000 in
theorem Mono_any (v : Value) (L : Ltc) (tv : Value) (t : List Int) (w : World) (h : IsLtc w v L) (ht : IsInts w tv t) (hK : KeysAt w 0) : Calls Tryd.prog 25 #[v, tv] w fun e w' => e = .returned (.bool (monoL L t)) ∧ Below w.heap.size w w' := by
  have ht0 := ht
  obtain ⟨ta, tc, rfl, n1, n2, n3⟩ := IsRows.shape ht
  have h0 := h
  obtain ⟨ea, ec, ca, cc, rfl, -, -, m1, m2, m3⟩ := h.shape
  have g0 := heap_alloc_new w (.cells #[.string L.name.1, .slice ea L.elems.length ec, .slice ca L.covers.length cc, .int .i64 L.at_] 25)
  have b0 := below_new w (.cells #[.string L.name.1, .slice ea L.elems.length ec, .slice ca L.covers.length cc, .int .i64 L.at_] 25)
  obtain ⟨wb, hwb⟩ : ∃ x : World, x = w.alloc (.cells #[.string L.name.1, .slice ea L.elems.length ec, .slice ca L.covers.length cc, .int .i64 L.at_] 25) := ⟨_, rfl⟩
  rw [← hwb] at g0 b0
  obtain ⟨y0, y1, y2, y3⟩ := Box4.of g0
  by_cases hck : checkL L = 0
  case neg =>
    have HF := Lib.hid (show monoL L t = false by unfold monoL; rw [decide_eq_false hck]; rfl)
    have HX := Lib.hid (of_no (h0.keep (keeps_below b0)) (hK.keep (keeps_below b0)) hck)
    have HCK := Lib.hid hck
    clear hck
    go_enter Tryd.func25, Tryd.ntmps25
    go_wp2_with fail
    rw [← hwb]
    clear hwb
    refine HX.out.mono ?_
    rintro e w3 ⟨q0, q1, q2, q3, q4, q5, q6, q7, rfl, b3⟩
    go_wp2
    go_ret
    exact ⟨ret_bool HF.out.symm, below_alloc' (below_trans b0 b3)⟩
  have hn8 := (args_parts (check_zero hck).1).1
  have HRG := Lib.hid (args_parts (check_zero hck).1).2.2.2
  by_cases hlen : t.length = L.elems.length
  case neg =>
    have HF := Lib.hid (show monoL L t = false by unfold monoL; rw [decide_eq_false hlen]; simp)
    have hq : ((t.length : Int) != (L.elems.length : Int)) = true := by simp; omega
    have hq2 : (t.length != L.elems.length) = true := by simp [hlen]
    have HX := Lib.hid (of_ok (h0.keep (keeps_below b0)) (hK.keep (keeps_below b0)) hck)
    have HCK := Lib.hid hck
    clear hck
    go_enter Tryd.func25, Tryd.ntmps25
    go_wp2_with fail
    rw [← hwb]
    clear hwb
    refine HX.out.mono ?_
    rintro e w3 ⟨q0, q1, q2, q3, q4, q5, q6, q7, rfl, HO, b3⟩
    clear HX y0 y1 y2 y3
    replace b0 := below_trans b0 b3
    replace g0 := block_keep g0 b3
    have hA : OrdAt (w3.alloc (.cells #[.int .u8 q0, .int .u8 q1, .int .u8 q2, .int .u8 q3, .int .u8 q4, .int .u8 q5, .int .u8 q6, .int .u8 q7] 48)) w3.heap.size [q0, q1, q2, q3, q4, q5, q6, q7] := heap_alloc_new w3 _
    have b4 := below_new w3 (.cells #[.int .u8 q0, .int .u8 q1, .int .u8 q2, .int .u8 q3, .int .u8 q4, .int .u8 q5, .int .u8 q6, .int .u8 q7] 48)
    obtain ⟨w4, hw4⟩ : ∃ x : World, x = w3.alloc (.cells #[.int .u8 q0, .int .u8 q1, .int .u8 q2, .int .u8 q3, .int .u8 q4, .int .u8 q5, .int .u8 q6, .int .u8 q7] 48) := ⟨_, rfl⟩
    rw [← hw4] at hA b4
    replace b0 := below_trans b0 b4
    replace g0 := block_keep g0 b4
    clear b3 b4
    go_upto_region 2 with fail
    rw [← hw4]
    clear hw4
    obtain ⟨y0, y1, y2, y3⟩ := Box4.of g0
    go_wp2
    go_ret
    exact ⟨ret_bool HF.out.symm, b0⟩
  have hq : ((t.length : Int) != (L.elems.length : Int)) = false := by simp [hlen]
  have hq2 : (t.length != L.elems.length) = false := by simp [hlen]
  have HLN := Lib.hid hlen
  have HFF := Lib.hid (show monoL L t = (inAll L.elems.length t && monoT L.elems.length (ordL L) t) by unfold monoL; rw [decide_eq_true hck, decide_eq_true hlen]; rfl)
  clear hlen
  have HX := Lib.hid (of_ok (h0.keep (keeps_below b0)) (hK.keep (keeps_below b0)) hck)
  have HCK := Lib.hid hck
  clear hck
  go_enter Tryd.func25, Tryd.ntmps25
  go_wp2_with fail
  rw [← hwb]
  clear hwb
  refine HX.out.mono ?_
  rintro e w3 ⟨q0, q1, q2, q3, q4, q5, q6, q7, rfl, HO, b3⟩
  clear HX y0 y1 y2 y3
  replace b0 := below_trans b0 b3
  replace g0 := block_keep g0 b3
  have hA : OrdAt (w3.alloc (.cells #[.int .u8 q0, .int .u8 q1, .int .u8 q2, .int .u8 q3, .int .u8 q4, .int .u8 q5, .int .u8 q6, .int .u8 q7] 48)) w3.heap.size [q0, q1, q2, q3, q4, q5, q6, q7] := heap_alloc_new w3 _
  have b4 := below_new w3 (.cells #[.int .u8 q0, .int .u8 q1, .int .u8 q2, .int .u8 q3, .int .u8 q4, .int .u8 q5, .int .u8 q6, .int .u8 q7] 48)
  obtain ⟨w4, hw4⟩ : ∃ x : World, x = w3.alloc (.cells #[.int .u8 q0, .int .u8 q1, .int .u8 q2, .int .u8 q3, .int .u8 q4, .int .u8 q5, .int .u8 q6, .int .u8 q7] 48) := ⟨_, rfl⟩
  rw [← hw4] at hA b4
  replace b0 := below_trans b0 b4
  replace g0 := block_keep g0 b4
  clear b3 b4
  go_upto_region 2 with fail
  rw [← hw4]
  clear hw4
  obtain ⟨y0, y1, y2, y3⟩ := Box4.of g0
  cases hin : inAll L.elems.length t
  · have HIN := Lib.hid hin
    have HF := Lib.hid (show monoL L t = false by rw [HFF.out, hin]; rfl)
    clear hin
    go_wp2_with fail
    refine (inside_any _ L _ t _ (h0.keep (keeps_below b0)) (ht0.keep (keeps_below b0))).mono ?_
    rintro e w6 ⟨rfl, b6⟩
    rw [HIN.out]
    go_wp2
    go_ret
    exact ⟨ret_bool HF.out.symm, below_trans b0 b6⟩
  · have HIN := Lib.hid hin
    have HAL := Lib.hid (show ∀ x ∈ t, 0 ≤ x ∧ x < L.elems.length from fun x hx => of_decide_eq_true (List.all_eq_true.1 hin x hx))
    clear hin
    go_wp2_with fail
    refine (inside_any _ L _ t _ (h0.keep (keeps_below b0)) (ht0.keep (keeps_below b0))).mono ?_
    rintro e w6 ⟨rfl, b6⟩
    rw [HIN.out]
    clear y0 y1 y2 y3
    replace hA := hA.keep b6
    replace b0 := below_trans b0 b6
    replace ht0 := ht0.keep (keeps_below b0)
    clear g0
    go_wp2
    go_loopw [33, 7, 8] (fun i _ _ wr => ∃ a : Nat, a ≤ t.length ∧ i = .int .i64 a ∧ Hid (∀ i, i < a → rowOk L.elems.length (ordL L) t i L.elems.length) ∧ Below w6.heap.size w6 wr) (fun i _ _ _ => t.length - (intOf i).toNat)
    case atStart => exact ⟨0, Nat.zero_le _, rfl, Lib.hid fun i hi => by omega, Below.refl _ _⟩
    case round =>
      obtain ⟨a, ha, rfl, HR, bR⟩ := hrel
      obtain ⟨wo, rfl⟩ : ∃ wo : World, wo = wr := ⟨_, rfl⟩
      by_cases hlt : a < t.length
      · have hd : decide (a < t.length) = true := decide_eq_true hlt
        have ha8 : (a : Int) < 8 := by have := HLN.out; omega
        have haI : (a : Int) < (t.length : Int) := by omega
        obtain ⟨b1, of1, rfl, hct⟩ := ht0.at_ (List.getElem?_eq_getElem hlt)
        have HTA := Lib.hid (List.getElem?_eq_getElem hlt)
        obtain ⟨hx0, hx1⟩ := HAL.out _ (List.getElem_mem hlt)
        generalize t[a] = x at *
        obtain ⟨x, rfl⟩ := Int.eq_ofNat_of_zero_le hx0
        have hx8 : (x : Int) < 8 := by omega
        obtain ⟨xa, hxa⟩ : ∃ xa, [q0, q1, q2, q3, q4, q5, q6, q7][a]? = some xa := ⟨_, List.getElem?_eq_getElem (by simp; omega)⟩
        have hIA := HO.out.row a xa hxa
        have hca := (hA.keep bR).cell hxa
        have HIA := Lib.hid hIA
        obtain ⟨xx, hxx⟩ : ∃ xx, [q0, q1, q2, q3, q4, q5, q6, q7][x]? = some xx := ⟨_, List.getElem?_eq_getElem (by simp; omega)⟩
        have HIX := Lib.hid (HO.out.row x xx hxx)
        have hcx := hA.cell hxx
        clear hxa hxx hIA
        go_wp2
        clear hca
        go_loopw [8, 9] (fun u _ wr => ∃ (s : Int) (m : Nat), m ≤ 8 ∧ u = .int .u8 s ∧ Hid (Bits s (fun b => ordL L a b && decide (m ≤ b))) ∧ Hid (rowOk L.elems.length (ordL L) t a m) ∧ Below w6.heap.size w6 wr) (fun u _ _ => (intOf u).toNat)
        case atStart => exact ⟨xa, 0, by omega, rfl, Lib.hid (HIA.out.congr fun b _ => by simp), Lib.hid fun b hb => by omega, bR⟩
        case round =>
          obtain ⟨s, m, hm8, rfl, HS, HRW, bS⟩ := hrel
          obtain ⟨wp, rfl⟩ : ∃ wp : World, wp = wr := ⟨_, rfl⟩
          clear bR
          have hs0 := HS.out.1
          have hs1 := HS.out.2.1
          by_cases hz : s = 0
          · have hq0 : (s != 0) = false := by simp [hz]
            have HN := Lib.hid (show ∀ i, i < a + 1 → rowOk L.elems.length (ordL L) t i L.elems.length from fun i hi => by
              rcases Nat.lt_or_ge i a with h | h
              · exact HR.out i h
              · obtain rfl : i = a := by omega
                intro b hb hbn hob
                rcases Nat.lt_or_ge b m with h' | h'
                · exact HRW.out b h' hbn hob
                · have := (HS.out.isZero.1 hz) b (by omega)
                  rw [hob, decide_eq_true h'] at this; cases this)
            clear hz
            go_wp2
            go_roundw
            case rel => exact ⟨a + 1, by omega, by go_num, HN, bS⟩
            case measure => simp [intOf]; omega
          · have hq0 : (s != 0) = true := by simpa using hz
            have hsp : 0 < s := by omega
            obtain ⟨b, hb8, hlow⟩ := low_of 8 (fun b => ordL L a b && decide (m ≤ b)) (Classical.byContradiction fun hne => hz (HS.out.isZero.2 fun b hb => by
              cases hc : (ordL L a b && decide (m ≤ b))
              · rfl
              · exact absurd ⟨b, hb, hc⟩ hne))
            have hob := hlow.1
            rw [Bool.and_eq_true] at hob
            obtain ⟨hoab, hmb⟩ := hob
            have hmb := of_decide_eq_true hmb
            have hbn := (clo_lt HRG.out hoab).2
            have hbt : b < t.length := by have := HLN.out; omega
            obtain ⟨b2, of2, hbe, hcb⟩ := ht0.at_ (List.getElem?_eq_getElem hbt)
            have HTB := Lib.hid (List.getElem?_eq_getElem hbt)
            obtain ⟨hy0, hy1⟩ := HAL.out _ (List.getElem_mem hbt)
            generalize t[b] = y at *
            obtain ⟨y, rfl⟩ := Int.eq_ofNat_of_zero_le hy0
            obtain ⟨e1, e2⟩ : b1 = b2 ∧ of1 = of2 := by simpa using hbe
            subst e1 e2
            have hy8 : (y : Int) < 8 := by omega
            have hbI : (b : Int) < (t.length : Int) := by omega
            have htx := HIX.out.test (b := y) (by omega)
            have hxx0 := HIX.out.1
            have hxx1 := HIX.out.2.1
            have hpl := and_pred_lt hsp hs1
            have HLESS := Lib.hid (HS.out.less hb8 hlow)
            have HLOW := Lib.hid hlow
            have HOAB := Lib.hid hoab
            replace hct := cell_keep bS hct
            replace hcb := cell_keep bS hcb
            replace hcx := cell_keep bS hcx
            clear hbe hz hlow hoab
            cases hxy : ordL L x y
            · rw [hxy, if_neg (by simp)] at htx
              have HF := Lib.hid (show monoL L t = false by rw [HFF.out, monoT_false (by have := HLN.out; omega) hbn HTA.out HTB.out HOAB.out hxy]; simp)
              clear hxy
              go_wp2_with fail
              refine (tz_any s _ b _ HS.out hb8 HLOW.out).mono ?_
              rintro e wq ⟨rfl, rfl⟩
              go_wp2
              go_quiet (fail)
              go_wp2
              go_ret
              exact ⟨ret_bool HF.out.symm, below_drewN (below_trans b0 bS) _⟩
            · rw [hxy, if_pos rfl] at htx
              have HN := Lib.hid (show rowOk L.elems.length (ordL L) t a (b + 1) from fun j hj hjn hoj => by
                rcases Nat.lt_or_ge j m with h | h
                · exact HRW.out j h hjn hoj
                · rcases Nat.lt_or_ge j b with h' | h'
                  · have : (ordL L a j && decide (m ≤ j)) = false := HLOW.out.2 j h'
                    rw [hoj, decide_eq_true h] at this; cases this
                  · obtain rfl : j = b := by omega
                    rw [getD_at HTA.out, getD_at HTB.out, Int.toNat_natCast, Int.toNat_natCast]; exact hxy)
              have HLB := Lib.hid (show ∀ c, c < b → (ordL L a c && decide (m ≤ c)) = false from HLOW.out.2)
              clear hxy
              go_wp2_with fail
              refine (tz_any s _ b _ HS.out hb8 HLOW.out).mono ?_
              rintro e wq ⟨rfl, rfl⟩
              go_wp2
              go_quiet (fail)
              go_wp2
              go_roundw
              case rel =>
                refine ⟨_, b + 1, by omega, rfl, Lib.hid (HLESS.out.congr fun c hc => ?_), HN, below_drewN bS _⟩
                rcases Nat.lt_or_ge c b with h | h
                · rw [HLB.out c h, decide_eq_false (by omega : ¬ b + 1 ≤ c)]; simp
                · by_cases hcb : c = b
                  · subst hcb; simp
                  · rw [decide_eq_true (by omega : m ≤ c), decide_eq_true (by omega : b + 1 ≤ c), decide_eq_false hcb]; simp
              case measure => simp [intOf]; omega
      · have e : a = t.length := by omega
        subst e
        have hd : decide (t.length < t.length) = false := decide_eq_false hlt
        have HF := Lib.hid (show monoL L t = true by
          rw [HFF.out, HIN.out, monoT_true fun i hi => HR.out i (by have := HLN.out; omega)]; rfl)
        go_wp2
        go_ret
        exact ⟨ret_bool HF.out.symm, below_trans b0 bR⟩
end Go.Proofs.YtkjlflmcojmfgaaDoor
