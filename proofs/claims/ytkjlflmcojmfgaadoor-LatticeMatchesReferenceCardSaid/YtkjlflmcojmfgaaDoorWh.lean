/- The walks of Lub, Join, Bottom. -/
import Derived.Test.YtkjlflmcojmfgaaDoorWg
namespace Go.Proofs.YtkjlflmcojmfgaaDoor
open Go.RowKit
theorem bits_full2 {n : Nat} (hn : n ≤ 8) : Bits ((2 ^ n % 256 - 1) % 256) (fun b => decide (b < n)) := bits_full hn
def upTo' (n : Nat) (o : Rl2) (l : List Int) : Nat → Bool := fun c => decide (c < n) && l.all fun a => o a.toNat c
theorem upTo_nil (n : Nat) (o : Rl2) : upTo' n o [] = fun c => decide (c < n) := by funext c; simp [upTo']
theorem upTo_snoc (n : Nat) (o : Rl2) (l : List Int) (a : Int) (c : Nat) : upTo' n o (l ++ [a]) c = (upTo' n o l c && o a.toNat c) := by simp [upTo', Bool.and_assoc]
theorem upTo_lub (n : Nat) (o : Rl2) (l : List Int) : leastOf n o (upTo' n o l) = lub n o (l.map Int.toNat) := by
  unfold lub
  refine leastOf_congr fun c hc => ?_
  unfold upTo'
  rw [decide_eq_true hc, Bool.true_and, List.all_map]
  rfl
set_option maxHeartbeats 4000000 in
set_option maxRecDepth 100000 in
theorem Lub_any (v : Value) (L : Ltc) (lv : Value) (l : List Int) (w : World) (h : IsLtc w v L) (hl : IsInts w lv l) (hK : KeysAt w 0) : Calls Tryd.prog 18 #[v, lv] w fun e w' => e = .returned (.int .i64 (lubL L l)) ∧ Below w.heap.size w w' := by
  have hl0 := hl
  obtain ⟨la, lc, rfl, n1, n2, n3⟩ := IsRows.shape hl
  have h0 := h
  obtain ⟨ea, ec, ca, cc, rfl, -, -, m1, m2, m3⟩ := h.shape
  have g0 := heap_alloc_new w (.cells #[.string L.name.1, .slice ea L.elems.length ec, .slice ca L.covers.length cc, .int .i64 L.at_] 25)
  have b0 := below_new w (.cells #[.string L.name.1, .slice ea L.elems.length ec, .slice ca L.covers.length cc, .int .i64 L.at_] 25)
  obtain ⟨wb, hwb⟩ : ∃ x : World, x = w.alloc (.cells #[.string L.name.1, .slice ea L.elems.length ec, .slice ca L.covers.length cc, .int .i64 L.at_] 25) := ⟨_, rfl⟩
  rw [← hwb] at g0 b0
  obtain ⟨y0, y1, y2, y3⟩ := Box4.of g0
  by_cases hck : checkL L = 0
  case neg =>
    have HF := Lib.hid (show lubL L l = -1 by unfold lubL; rw [if_neg (fun h => hck h.1)])
    have HX := Lib.hid (of_no (h0.keep (keeps_below b0)) (hK.keep (keeps_below b0)) hck)
    have HCK := Lib.hid hck
    clear hck
    go_enter Tryd.func18, Tryd.ntmps18
    go_wp2_with fail
    rw [← hwb]
    clear hwb
    refine HX.out.mono ?_
    rintro e w3 ⟨q0, q1, q2, q3, q4, q5, q6, q7, rfl, b3⟩
    go_wp2
    go_ret
    exact ⟨ret_int HF.out.symm, below_alloc' (below_trans b0 b3)⟩
  have hn8 := (args_parts (check_zero hck).1).1
  have HX := Lib.hid (of_ok (h0.keep (keeps_below b0)) (hK.keep (keeps_below b0)) hck)
  have HCK := Lib.hid hck
  clear hck
  go_enter Tryd.func18, Tryd.ntmps18
  go_wp2_with fail
  rw [← hwb]
  clear hwb
  refine HX.out.mono ?_
  rintro e w3 ⟨q0, q1, q2, q3, q4, q5, q6, q7, rfl, HO, b3⟩
  clear HX y0 y1 y2 y3
  replace b0 := below_trans b0 b3
  replace g0 := block_keep g0 b3
  have hA : OrdAt (w3.alloc (.cells #[.int .u8 q0, .int .u8 q1, .int .u8 q2, .int .u8 q3, .int .u8 q4, .int .u8 q5, .int .u8 q6, .int .u8 q7] 48)) w3.heap.size [q0, q1, q2, q3, q4, q5, q6, q7] := heap_alloc_new w3 _
  have b4 := below_new w3 (.cells #[.int .u8 q0, .int .u8 q1, .int .u8 q2, .int .u8 q3, .int .u8 q4, .int .u8 q5, .int .u8 q6, .int .u8 q7] 48)
  obtain ⟨w4, hw4⟩ : ∃ x : World, x = w3.alloc (.cells #[.int .u8 q0, .int .u8 q1, .int .u8 q2, .int .u8 q3, .int .u8 q4, .int .u8 q5, .int .u8 q6, .int .u8 q7] 48) := ⟨_, rfl⟩
  rw [← hw4] at hA b4
  replace b0 := below_trans b0 b4
  replace g0 := block_keep g0 b4
  clear b3 b4
  go_upto_region 2 with fail
  rw [← hw4]
  clear hw4
  obtain ⟨y0, y1, y2, y3⟩ := Box4.of g0
  cases hin : inAll L.elems.length l
  · have HIN := Lib.hid hin
    have HF := Lib.hid (show lubL L l = -1 by unfold lubL; rw [if_neg (fun h => by rw [hin] at h; cases h.2)])
    clear hin
    go_wp2_with fail
    refine (inside_any _ L _ l _ (h0.keep (keeps_below b0)) (hl0.keep (keeps_below b0))).mono ?_
    rintro e w6 ⟨rfl, b6⟩
    rw [HIN.out]
    go_wp2
    go_ret
    exact ⟨ret_int HF.out.symm, below_trans b0 b6⟩
  · have HIN := Lib.hid hin
    have HF := Lib.hid (show lubL L l = leastOf L.elems.length (ordL L) (upTo' L.elems.length (ordL L) l) by unfold lubL; rw [if_pos ⟨HCK.out, hin⟩, upTo_lub])
    have HAL := Lib.hid (show ∀ x ∈ l, 0 ≤ x ∧ x < L.elems.length from fun x hx => of_decide_eq_true (List.all_eq_true.1 hin x hx))
    clear hin
    go_wp2_with fail
    refine (inside_any _ L _ l _ (h0.keep (keeps_below b0)) (hl0.keep (keeps_below b0))).mono ?_
    rintro e w6 ⟨rfl, b6⟩
    rw [HIN.out]
    clear y0 y1 y2 y3
    replace hA := hA.keep b6
    replace b0 := below_trans b0 b6
    replace g0 := block_keep g0 b6
    obtain ⟨y0, y1, y2, y3⟩ := Box4.of g0
    have hnI : (L.elems.length : Int) ≤ 8 := by omega
    go_wp2
    go_loop [30, 9, 7] (fun i _ u => ∃ (k : Nat) (s : Int), k ≤ l.length ∧ i = .int .i64 k ∧ u = .int .u8 s ∧ Hid (Bits s (upTo' L.elems.length (ordL L) (l.take k)))) (fun i _ _ => l.length - (intOf i).toNat)
    case atStart => exact ⟨0, _, Nat.zero_le _, rfl, rfl, Lib.hid (by rw [List.take_zero, upTo_nil]; exact bits_full2 hn8)⟩
    case round =>
      obtain ⟨k, s, hk, rfl, rfl, HS⟩ := hrel
      by_cases hlt : k < l.length
      · obtain ⟨b, off, rfl, hc⟩ := hl0.at_ (List.getElem?_eq_getElem hlt)
        replace hc := cell_keep b0 hc
        have HT := Lib.hid (List.take_succ_eq_append_getElem hlt)
        obtain ⟨hx0, hx1⟩ := HAL.out _ (List.getElem_mem hlt)
        generalize l[k] = x at *
        obtain ⟨a, rfl⟩ := Int.eq_ofNat_of_zero_le hx0
        have hd : decide (k < l.length) = true := decide_eq_true hlt
        have hkI : (k : Int) < (l.length : Int) := by omega
        have hk0 : (0 : Int) ≤ (k : Int) := by omega
        have ha8 : (a : Int) < 8 := by omega
        obtain ⟨xa, hxa⟩ : ∃ xa, [q0, q1, q2, q3, q4, q5, q6, q7][a]? = some xa := ⟨_, List.getElem?_eq_getElem (by simp; omega)⟩
        have HIA := Lib.hid (HO.out.row a xa hxa)
        have hca := hA.cell hxa
        clear hxa
        go_wp2
        go_round
        case rel => exact ⟨k + 1, _, by omega, by go_num, rfl, Lib.hid ((HS.out.and HIA.out).congr fun c _ => by rw [HT.out, upTo_snoc]; rfl)⟩
        case measure => simp [intOf]; omega
      · have e : k = l.length := by omega
        subst e
        rw [List.take_length] at HS
        have hd : decide (l.length < l.length) = false := decide_eq_false hlt
        have HSC := Lib.hid (show ∀ c, c < 8 → upTo' L.elems.length (ordL L) l c = true → c < L.elems.length from fun c _ h => by unfold upTo' at h; rw [Bool.and_eq_true] at h; exact of_decide_eq_true h.1)
        obtain ⟨m, HM⟩ : ∃ m, Hid (leastOf L.elems.length (ordL L) (upTo' L.elems.length (ordL L) l) = m) := ⟨_, Lib.hid rfl⟩
        have r0 := hA.cell (a := 0) rfl
        have r1 := hA.cell (a := 1) rfl
        have r2 := hA.cell (a := 2) rfl
        have r3 := hA.cell (a := 3) rfl
        have r4 := hA.cell (a := 4) rfl
        have r5 := hA.cell (a := 5) rfl
        have r6 := hA.cell (a := 6) rfl
        have r7 := hA.cell (a := 7) rfl
        go_wp2_with fail
        refine least_ts HO HS.out HSC.out hn8 HM ?_
        intro w7 b7
        go_wp2
        go_ret
        exact ⟨ret_int (by rw [HF.out, HM.out]), below_trans b0 b7⟩
theorem join_lit (w : World) (a b : Int) : IsInts (w.alloc (.cells #[.int .i64 a, .int .i64 b] 3)) (.slice (some ⟨w.heap.size, 0, none⟩) 2 2) [a, b] := ints_lit w [a, b] (by simp)
set_option maxHeartbeats 2000000 in
theorem Join_any (v : Value) (L : Ltc) (a b : Int) (w : World) (h : IsLtc w v L) (hK : KeysAt w 0) : Calls Tryd.prog 16 #[v, .int .i64 a, .int .i64 b] w fun e w' => e = .returned (.int .i64 (lubL L [a, b])) ∧ Below w.heap.size w w' := by
  have h0 := h
  obtain ⟨ea, ec, ca, cc, rfl, -, -, m1, m2, m3⟩ := h.shape
  have g0 := heap_alloc_new w (.cells #[.string L.name.1, .slice ea L.elems.length ec, .slice ca L.covers.length cc, .int .i64 L.at_] 25)
  have b0 := below_new w (.cells #[.string L.name.1, .slice ea L.elems.length ec, .slice ca L.covers.length cc, .int .i64 L.at_] 25)
  obtain ⟨wb, hwb⟩ : ∃ x : World, x = w.alloc (.cells #[.string L.name.1, .slice ea L.elems.length ec, .slice ca L.covers.length cc, .int .i64 L.at_] 25) := ⟨_, rfl⟩
  rw [← hwb] at g0 b0
  obtain ⟨y0, y1, y2, y3⟩ := Box4.of g0
  have b1 := below_new wb (.cells #[.int .i64 a, .int .i64 b] 3)
  go_enter Tryd.func16, Tryd.ntmps16
  go_upto_region 1 with fail
  rw [← hwb]
  clear hwb
  go_wp2_with fail
  refine (Lub_any _ L _ [a, b] _ (h0.keep (keeps_below (below_trans b0 b1))) (join_lit wb a b) (hK.keep (keeps_below (below_trans b0 b1)))).mono ?_
  rintro e w3 ⟨rfl, b3⟩
  go_wp2
  go_ret
  exact ⟨rfl, below_trans (below_trans b0 b1) b3⟩
set_option maxHeartbeats 2000000 in
theorem Bottom_any (v : Value) (L : Ltc) (w : World) (h : IsLtc w v L) (hK : KeysAt w 0) : Calls Tryd.prog 20 #[v] w fun e w' => e = .returned (.int .i64 (lubL L [])) ∧ Below w.heap.size w w' := by
  have h0 := h
  obtain ⟨ea, ec, ca, cc, rfl, -, -, m1, m2, m3⟩ := h.shape
  have g0 := heap_alloc_new w (.cells #[.string L.name.1, .slice ea L.elems.length ec, .slice ca L.covers.length cc, .int .i64 L.at_] 25)
  have b0 := below_new w (.cells #[.string L.name.1, .slice ea L.elems.length ec, .slice ca L.covers.length cc, .int .i64 L.at_] 25)
  obtain ⟨wb, hwb⟩ : ∃ x : World, x = w.alloc (.cells #[.string L.name.1, .slice ea L.elems.length ec, .slice ca L.covers.length cc, .int .i64 L.at_] 25) := ⟨_, rfl⟩
  rw [← hwb] at g0 b0
  obtain ⟨y0, y1, y2, y3⟩ := Box4.of g0
  go_enter Tryd.func20, Tryd.ntmps20
  go_wp2_with fail
  rw [← hwb]
  clear hwb
  refine (Lub_any _ L _ [] _ (h0.keep (keeps_below b0)) (IsInts.nil _) (hK.keep (keeps_below b0))).mono ?_
  rintro e w3 ⟨rfl, b3⟩
  go_wp2
  go_ret
  exact ⟨rfl, below_trans b0 b3⟩
end Go.Proofs.YtkjlflmcojmfgaaDoor
