/- The walks of the reference's Check, Leq, Lub, Join, Bottom. -/
import Derived.Test.YtkjlflmcojmfgaaDoorWq
import Derived.Test.YtkjlflmcojmfgaaDoorWr
import Derived.Test.YtkjlflmcojmfgaaDoorWs
namespace Go.Proofs.YtkjlflmcojmfgaaDoor
open Go.RowKit
theorem okp_lub {n : Nat} {o : Rl2} {a b : Nat} : okp n o a b = (!(decide (a ≠ b) && o a b && o b a) && decide (0 ≤ lub n o [a, b])) := by
  unfold okp lub
  rw [leastOf_congr (S := fun c => o a c && o b c) (T := fun c => [a, b].all fun x => o x c) fun c _ => by simp]
theorem bound_none (n : Nat) (o : Rl2) : boundOf n o (fun _ => false) = leastOf n o (fun b => decide (b < n)) :=
  leastOf_congr fun c hc => by rw [decide_eq_true hc]; unfold upB; rw [List.all_eq_true]; intro b _; rfl
theorem bound_two {n : Nat} {o : Rl2} {a b : Nat} (ha : a < n) (hb : b < n) : boundOf n o (fun x => decide (x ∈ [a, b])) = lub n o [a, b] :=
  bound_lub (by simp [ha, hb]) fun _ _ => rfl
theorem castI_two (a b : Nat) : castI [a, b] = [(a : Int), (b : Int)] := rfl
set_option maxHeartbeats 8000000 in
set_option maxRecDepth 100000 in
theorem Check_ref (v : Value) (L : Ltc) (w : World) (h : IsLtc w v L) (hK : KeysAt w 1) : Calls Tryd.prog 13 #[v] w fun e w' => e = .returned (.int .i64 (checkL L)) ∧ Below w.heap.size w w' := by
  have h0 := h
  obtain ⟨ea, ec, ca, cc, rfl, -, -, m1, m2, m3⟩ := h.shape
  have g0 := heap_alloc_new w (.cells #[.string L.name.1, .slice ea L.elems.length ec, .slice ca L.covers.length cc, .int .i64 L.at_] 25)
  have b0 := below_new w (.cells #[.string L.name.1, .slice ea L.elems.length ec, .slice ca L.covers.length cc, .int .i64 L.at_] 25)
  obtain ⟨wb, hwb⟩ : ∃ x : World, x = w.alloc (.cells #[.string L.name.1, .slice ea L.elems.length ec, .slice ca L.covers.length cc, .int .i64 L.at_] 25) := ⟨_, rfl⟩
  rw [← hwb] at g0 b0
  obtain ⟨y0, y1, y2, y3⟩ := Box4.of g0
  go_enter Tryd.func13, Tryd.ntmps13
  go_wp2_with fail
  rw [← hwb]
  refine (names_ref _ L _ (h0.keep (keeps_below b0)) (hK.keep (keeps_below b0))).mono ?_
  rintro e w1 ⟨rfl, bN⟩
  clear hwb y0 y1 y2 y3
  replace g0 := block_keep g0 bN
  replace b0 := below_trans b0 bN
  clear bN
  cases har : argsOk L
  · have HF := Lib.hid (check_args har)
    rw [names_bad har]
    clear har
    go_wp2
    go_ret
    exact ⟨ret_int HF.out.symm, b0⟩
  have HAR := Lib.hid har
  cases hdn : dupN L.elems
  case true =>
    have HF := Lib.hid (check_twice har hdn)
    rw [names_dup har hdn]
    clear har hdn
    go_wp2
    go_ret
    exact ⟨ret_int HF.out.symm, b0⟩
  have HDN := Lib.hid hdn
  rw [names_ok har hdn]
  have hn8 := (args_parts har).1
  have hn1 := (args_parts har).2.1
  clear har hdn
  obtain ⟨y0, y1, y2, y3⟩ := Box4.of g0
  go_wp2_with fail
  refine (Order_ref _ L _ (h0.keep (keeps_below b0)) HAR.out).mono ?_
  rintro e w2 ⟨G, c, rfl, hM, bN⟩
  clear y0 y1 y2 y3 g0 h0 hK
  replace b0 := below_trans b0 bN
  clear bN
  have bX := Below.refl w2.heap.size w2
  have hmk := run_mkB L.elems.length (by omega)
  go_upto_region 5 with fail
  clear hmk
  go_wp2
  go_loopw [5, 6] (fun i _ wr => ∃ a : Nat, a ≤ L.elems.length ∧ i = .int .i64 a ∧ Hid (∀ j, j < a → ∀ b, b < L.elems.length → okp L.elems.length (ordL L) j b = true) ∧ Below w2.heap.size w2 wr) (fun i _ _ => L.elems.length - (intOf i).toNat)
  case atStart => exact ⟨0, Nat.zero_le _, rfl, Lib.hid fun _ h => by omega, bX⟩
  case round =>
    clear bX
    obtain ⟨a, ha, rfl, HA, bR⟩ := hrel
    obtain ⟨wo, rfl⟩ : ∃ wo : World, wo = wr := ⟨_, rfl⟩
    by_cases hla : a < L.elems.length
    · have hda : decide (a < L.elems.length) = true := decide_eq_true hla
      go_wp2
      go_loopw [6] (fun i wr => ∃ b : Nat, b ≤ L.elems.length ∧ i = .int .i64 b ∧ Hid (∀ j, j < b → okp L.elems.length (ordL L) a j = true) ∧ Below w2.heap.size w2 wr) (fun i _ => L.elems.length - (intOf i).toNat)
      case atStart => exact ⟨0, Nat.zero_le _, rfl, Lib.hid fun _ h => by omega, bR⟩
      case round =>
        clear bR
        obtain ⟨b, hb, rfl, HB, bR⟩ := hrel
        obtain ⟨wi, rfl⟩ : ∃ wi : World, wi = wr := ⟨_, rfl⟩
        by_cases hlb : b < L.elems.length
        · have hdb : decide (b < L.elems.length) = true := decide_eq_true hlb
          have haI : (a : Int) < (L.elems.length : Int) := by omega
          have ha0 : (0 : Int) ≤ (a : Int) := by omega
          have hbI : (b : Int) < (L.elems.length : Int) := by omega
          have hb0 : (0 : Int) ≤ (b : Int) := by omega
          have HOK := Lib.hid (okp_lub (n := L.elems.length) (o := ordL L) (a := a) (b := b))
          have hMi := hM.keep bR
          obtain ⟨ra, hca, hRa⟩ := hMi.at_ hla
          obtain ⟨rb, hcb, hRb⟩ := hMi.at_ hlb
          have hc1 := hRa.cell hlb
          have hc2 := hRb.cell hla
          obtain ⟨m, hm⟩ : ∃ m, lub L.elems.length (ordL L) [a, b] = m := ⟨_, rfl⟩
          have HM := Lib.hid ((bound_two hla hlb).trans hm)
          rw [hm] at HOK
          clear hm
          have HRG2 := Lib.hid (show ∀ x ∈ [a, b], x < L.elems.length by simp [hla, hlb])
          clear hRa hRb
          by_cases hab : a = b
          · have q1 : ((a : Int) != (b : Int)) = false := by simp [hab]
            have q2 : (a != b) = false := by simp [hab]
            have HAB := Lib.hid hab
            clear hab
            have hLi := join_lit wi (a : Int) (b : Int)
            have bA := below_new wi (.cells #[.int .i64 a, .int .i64 b] 3)
            rw [← castI_two] at hLi
            go_wp2_with fail
            refine (marked_ref L.elems.length _ [a, b] _ hLi HRG2 (by omega)).mono ?_
            rintro e w3 ⟨g3, rfl, hB3, b3⟩
            replace b3 := below_trans bA b3
            clear hLi bA
            go_wp2_with fail
            refine (bound_ref G c L.elems.length (ordL L) g3 _ _ _ (hMi.keep b3) hB3 (by omega)).mono ?_
            rintro e w4 ⟨rfl, b4⟩
            rw [HM.out]
            have b5 := below_trans bR (below_trans b3 b4)
            clear b3 b4 hB3 hc1 hc2 hca hcb
            by_cases hm0 : m < 0
            · have hdm : decide (m < 0) = true := decide_eq_true hm0
              have HF := Lib.hid (check_order HAR.out HDN.out (good_pair hla hlb (by rw [HOK.out, decide_eq_false (by omega : ¬ 0 ≤ m)]; simp)))
              go_wp2
              go_ret
              exact ⟨ret_int HF.out.symm, below_trans b0 b5⟩
            · have hdm : decide (m < 0) = false := decide_eq_false hm0
              have HV := Lib.hid (show okp L.elems.length (ordL L) a b = true by rw [HOK.out, decide_eq_true (by omega : 0 ≤ m)]; simp [HAB.out])
              go_wp2
              go_roundw
              case rel =>
                exact ⟨b + 1, by omega, by go_num, Lib.hid fun j hj => by
                  rcases Nat.lt_or_ge j b with h | h
                  · exact HB.out j h
                  · obtain rfl : j = b := by omega
                    exact HV.out, b5⟩
              case measure => simp [intOf]; omega
          · have q1 : ((a : Int) != (b : Int)) = true := by simp; omega
            have q2 : (a != b) = true := by simp [hab]
            have HAB := Lib.hid hab
            clear hab
            cases hx : ordL L a b
            · have HX := Lib.hid hx
              rw [hx] at hc1
              clear hx
              have hLi := join_lit wi (a : Int) (b : Int)
              have bA := below_new wi (.cells #[.int .i64 a, .int .i64 b] 3)
              rw [← castI_two] at hLi
              go_wp2_with fail
              refine (marked_ref L.elems.length _ [a, b] _ hLi HRG2 (by omega)).mono ?_
              rintro e w3 ⟨g3, rfl, hB3, b3⟩
              replace b3 := below_trans bA b3
              clear hLi bA
              go_wp2_with fail
              refine (bound_ref G c L.elems.length (ordL L) g3 _ _ _ (hMi.keep b3) hB3 (by omega)).mono ?_
              rintro e w4 ⟨rfl, b4⟩
              rw [HM.out]
              have b5 := below_trans bR (below_trans b3 b4)
              clear b3 b4 hB3 hc1 hc2 hca hcb
              by_cases hm0 : m < 0
              · have hdm : decide (m < 0) = true := decide_eq_true hm0
                have HF := Lib.hid (check_order HAR.out HDN.out (good_pair hla hlb (by rw [HOK.out, decide_eq_false (by omega : ¬ 0 ≤ m)]; simp)))
                go_wp2
                go_ret
                exact ⟨ret_int HF.out.symm, below_trans b0 b5⟩
              · have hdm : decide (m < 0) = false := decide_eq_false hm0
                have HV := Lib.hid (show okp L.elems.length (ordL L) a b = true by rw [HOK.out, decide_eq_true (by omega : 0 ≤ m)]; simp [HX.out])
                go_wp2
                go_roundw
                case rel =>
                  exact ⟨b + 1, by omega, by go_num, Lib.hid fun j hj => by
                    rcases Nat.lt_or_ge j b with h | h
                    · exact HB.out j h
                    · obtain rfl : j = b := by omega
                      exact HV.out, b5⟩
                case measure => simp [intOf]; omega
            · have HX := Lib.hid hx
              rw [hx] at hc1
              clear hx
              cases hy : ordL L b a
              · have HY := Lib.hid hy
                rw [hy] at hc2
                clear hy
                have hLi := join_lit wi (a : Int) (b : Int)
                have bA := below_new wi (.cells #[.int .i64 a, .int .i64 b] 3)
                rw [← castI_two] at hLi
                go_wp2_with fail
                refine (marked_ref L.elems.length _ [a, b] _ hLi HRG2 (by omega)).mono ?_
                rintro e w3 ⟨g3, rfl, hB3, b3⟩
                replace b3 := below_trans bA b3
                clear hLi bA
                go_wp2_with fail
                refine (bound_ref G c L.elems.length (ordL L) g3 _ _ _ (hMi.keep b3) hB3 (by omega)).mono ?_
                rintro e w4 ⟨rfl, b4⟩
                rw [HM.out]
                have b5 := below_trans bR (below_trans b3 b4)
                clear b3 b4 hB3 hc1 hc2 hca hcb
                by_cases hm0 : m < 0
                · have hdm : decide (m < 0) = true := decide_eq_true hm0
                  have HF := Lib.hid (check_order HAR.out HDN.out (good_pair hla hlb (by rw [HOK.out, decide_eq_false (by omega : ¬ 0 ≤ m)]; simp)))
                  go_wp2
                  go_ret
                  exact ⟨ret_int HF.out.symm, below_trans b0 b5⟩
                · have hdm : decide (m < 0) = false := decide_eq_false hm0
                  have HV := Lib.hid (show okp L.elems.length (ordL L) a b = true by rw [HOK.out, decide_eq_true (by omega : 0 ≤ m)]; simp [HY.out])
                  go_wp2
                  go_roundw
                  case rel =>
                    exact ⟨b + 1, by omega, by go_num, Lib.hid fun j hj => by
                      rcases Nat.lt_or_ge j b with h | h
                      · exact HB.out j h
                      · obtain rfl : j = b := by omega
                        exact HV.out, b5⟩
                  case measure => simp [intOf]; omega
              · have HY := Lib.hid hy
                rw [hy] at hc2
                clear hy
                have HF := Lib.hid (check_order HAR.out HDN.out (good_pair hla hlb (by rw [HOK.out, HX.out, HY.out, decide_eq_true HAB.out]; rfl)))
                go_wp2
                go_ret
                exact ⟨ret_int HF.out.symm, below_trans b0 bR⟩
        · have e : b = L.elems.length := by omega
          subst e
          have hdb : decide (L.elems.length < L.elems.length) = false := decide_eq_false hlb
          go_wp2
          go_roundw
          case rel =>
            exact ⟨a + 1, by omega, by go_num, Lib.hid fun j hj => by
              rcases Nat.lt_or_ge j a with h | h
              · exact HA.out j h
              · obtain rfl : j = a := by omega
                exact HB.out, bR⟩
          case measure => simp [intOf]; omega
    · have e : a = L.elems.length := by omega
      subst e
      have hda : decide (L.elems.length < L.elems.length) = false := decide_eq_false hla
      have hmk := run_mkB L.elems.length (by omega)
      have r1 := BRow.new wo L.elems.length fun _ => false
      have bA := below_new wo (.cells (boolsV L.elems.length fun _ => false).toArray 4)
      obtain ⟨m, hm⟩ : ∃ m, boundOf L.elems.length (ordL L) (fun _ => false) = m := ⟨_, rfl⟩
      have HM := Lib.hid hm
      have HMN := Lib.hid ((bound_none _ _).symm.trans hm)
      clear hm
      go_wp2_with fail
      refine (bound_ref G c L.elems.length (ordL L) wo.heap.size _ _ _ (hM.keep (below_trans bR bA)) r1 (by omega)).mono ?_
      rintro e w4 ⟨rfl, b4⟩
      rw [HM.out]
      have b5 := below_trans bR (below_trans bA b4)
      clear hmk
      by_cases hm0 : m < 0
      · have hdm : decide (m < 0) = true := decide_eq_true hm0
        have HF := Lib.hid (check_order HAR.out HDN.out (good_least (by rw [HMN.out]; exact hm0)))
        go_wp2
        go_ret
        exact ⟨ret_int HF.out.symm, below_trans b0 b5⟩
      · have hdm : decide (m < 0) = false := decide_eq_false hm0
        have HF := Lib.hid (check_ok HAR.out HDN.out (good_all (by rw [HMN.out]; exact hm0) HA.out))
        go_wp2
        go_ret
        exact ⟨ret_int HF.out.symm, below_trans b0 b5⟩
set_option maxHeartbeats 4000000 in
set_option maxRecDepth 100000 in
theorem Leq_ref (v : Value) (L : Ltc) (a b : Int) (w : World) (h : IsLtc w v L) (hK : KeysAt w 1) : Calls Tryd.prog 15 #[v, .int .i64 a, .int .i64 b] w fun e w' => e = .returned (.bool (leqL L a b)) ∧ Below w.heap.size w w' := by
  have h0 := h
  obtain ⟨ea, ec, ca, cc, rfl, -, -, m1, m2, m3⟩ := h.shape
  have g0 := heap_alloc_new w (.cells #[.string L.name.1, .slice ea L.elems.length ec, .slice ca L.covers.length cc, .int .i64 L.at_] 25)
  have b0 := below_new w (.cells #[.string L.name.1, .slice ea L.elems.length ec, .slice ca L.covers.length cc, .int .i64 L.at_] 25)
  obtain ⟨wb, hwb⟩ : ∃ x : World, x = w.alloc (.cells #[.string L.name.1, .slice ea L.elems.length ec, .slice ca L.covers.length cc, .int .i64 L.at_] 25) := ⟨_, rfl⟩
  rw [← hwb] at g0 b0
  obtain ⟨y0, y1, y2, y3⟩ := Box4.of g0
  go_enter Tryd.func15, Tryd.ntmps15
  go_wp2_with fail
  rw [← hwb]
  refine (Check_ref _ L _ (h0.keep (keeps_below b0)) (hK.keep (keeps_below b0))).mono ?_
  rintro e w1 ⟨rfl, bN⟩
  clear hwb y0 y1 y2 y3
  replace g0 := block_keep g0 bN
  replace b0 := below_trans b0 bN
  clear bN
  by_cases hck : checkL L = 0
  case neg =>
    have HF := Lib.hid (show leqL L a b = false by unfold leqL; rw [decide_eq_false hck]; rfl)
    have hq : (checkL L == 0) = false := by simpa using hck
    generalize checkL L = c at *
    go_wp2
    go_ret
    exact ⟨ret_bool HF.out.symm, b0⟩
  have HCK := Lib.hid hck
  rw [hck]
  have HAR := Lib.hid (check_zero hck).1
  have hn8 := (args_parts HAR.out).1
  have HLE := Lib.hid (show leqL L a b = ((decide (0 ≤ a ∧ a < (L.elems.length : Int)) && decide (0 ≤ b ∧ b < (L.elems.length : Int))) && ordL L a.toNat b.toNat) by unfold leqL inAll; rw [decide_eq_true hck]; simp)
  clear hck
  obtain ⟨y0, y1, y2, y3⟩ := Box4.of g0
  go_wp2_with fail
  refine (In_any _ L a _ (h0.keep (keeps_below b0))).mono ?_
  rintro e w2 ⟨rfl, bN⟩
  clear y0 y1 y2 y3
  replace g0 := block_keep g0 bN
  replace b0 := below_trans b0 bN
  clear bN
  by_cases ha : 0 ≤ a ∧ a < (L.elems.length : Int)
  case neg =>
    rw [decide_eq_false ha] at HLE ⊢
    go_wp2
    go_ret
    exact ⟨ret_bool HLE.out.symm, b0⟩
  rw [decide_eq_true ha] at HLE ⊢
  obtain ⟨y0, y1, y2, y3⟩ := Box4.of g0
  go_wp2_with fail
  refine (In_any _ L b _ (h0.keep (keeps_below b0))).mono ?_
  rintro e w3 ⟨rfl, bN⟩
  clear y0 y1 y2 y3
  replace g0 := block_keep g0 bN
  replace b0 := below_trans b0 bN
  clear bN
  by_cases hb : 0 ≤ b ∧ b < (L.elems.length : Int)
  case neg =>
    rw [decide_eq_false hb] at HLE ⊢
    go_wp2
    go_ret
    exact ⟨ret_bool HLE.out.symm, b0⟩
  rw [decide_eq_true hb] at HLE ⊢
  obtain ⟨ha0, ha1⟩ := ha
  obtain ⟨hb0, hb1⟩ := hb
  obtain ⟨x, rfl⟩ := Int.eq_ofNat_of_zero_le ha0
  obtain ⟨y, rfl⟩ := Int.eq_ofNat_of_zero_le hb0
  have hxn : x < L.elems.length := by omega
  have hyn : y < L.elems.length := by omega
  obtain ⟨y0, y1, y2, y3⟩ := Box4.of g0
  go_wp2_with fail
  refine (Order_ref _ L _ (h0.keep (keeps_below b0)) HAR.out).mono ?_
  rintro e w4 ⟨G, c, rfl, hM, bN⟩
  clear y0 y1 y2 y3
  obtain ⟨r, hcG, hR⟩ := hM.at_ hxn
  have hcr := hR.cell hyn
  have HV := Lib.hid (show leqL L (x : Int) (y : Int) = ordL L x y from HLE.out.trans (by simp))
  generalize ordL L x y = z at *
  go_wp2
  go_ret
  exact ⟨ret_bool HV.out.symm, below_trans b0 bN⟩
end Go.Proofs.YtkjlflmcojmfgaaDoor
