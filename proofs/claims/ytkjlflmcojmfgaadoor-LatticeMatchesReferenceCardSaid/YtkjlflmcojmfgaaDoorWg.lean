/- The walks of Leq, Lub, Join, Bottom. -/
import Derived.Test.YtkjlflmcojmfgaaDoorWf
namespace Go.Proofs.YtkjlflmcojmfgaaDoor
open Go.RowKit
def leqL (L : Ltc) (a b : Int) : Bool := decide (checkL L = 0) && inAll L.elems.length [a, b] && ordL L a.toNat b.toNat
def lubL (L : Ltc) (l : List Int) : Int := if checkL L = 0 ∧ inAll L.elems.length l = true then lub L.elems.length (ordL L) (l.map Int.toNat) else -1
theorem ints_lit (w : World) (l : List Int) (hl : l.length ≤ 1000) : IsInts (w.alloc (.cells (l.map fun x => Value.int .i64 x).toArray 3)) (.slice (some ⟨w.heap.size, 0, none⟩) l.length l.length) l := by
  refine ⟨some ⟨w.heap.size, 0, none⟩, l.length, rfl, .inr ⟨w.heap.size, 0, rfl, fun i x hi j u hj => ?_⟩, by omega, Nat.le_refl _, by omega⟩
  have hj0 : j = 0 := by
    have := (List.getElem?_eq_some_iff.1 hj).1
    simp [encI] at this; exact this
  subst hj0
  have : u = .int .i64 x := by simpa [encI] using hj.symm
  subst this
  rw [cell_of_row _ w.heap.size _ _ 3 (0, 0) (heap_alloc_new w _)]
  simp [hi]
theorem in_two {n : Nat} {a b : Int} (h : inAll n [a, b] = true) : 0 ≤ a ∧ a < n ∧ 0 ≤ b ∧ b < n := by
  unfold inAll at h
  simp at h
  omega
set_option maxHeartbeats 4000000 in
set_option maxRecDepth 100000 in
theorem Leq_any (v : Value) (L : Ltc) (a b : Int) (w : World) (h : IsLtc w v L) (hK : KeysAt w 0) : Calls Tryd.prog 14 #[v, .int .i64 a, .int .i64 b] w fun e w' => e = .returned (.bool (leqL L a b)) ∧ Below w.heap.size w w' := by
  have h0 := h
  obtain ⟨ea, ec, ca, cc, rfl, -, -, m1, m2, m3⟩ := h.shape
  have g0 := heap_alloc_new w (.cells #[.string L.name.1, .slice ea L.elems.length ec, .slice ca L.covers.length cc, .int .i64 L.at_] 25)
  have b0 := below_new w (.cells #[.string L.name.1, .slice ea L.elems.length ec, .slice ca L.covers.length cc, .int .i64 L.at_] 25)
  obtain ⟨wb, hwb⟩ : ∃ x : World, x = w.alloc (.cells #[.string L.name.1, .slice ea L.elems.length ec, .slice ca L.covers.length cc, .int .i64 L.at_] 25) := ⟨_, rfl⟩
  rw [← hwb] at g0 b0
  obtain ⟨y0, y1, y2, y3⟩ := Box4.of g0
  by_cases hck : checkL L = 0
  case neg =>
    have HF := Lib.hid (show leqL L a b = false by unfold leqL; rw [decide_eq_false hck]; rfl)
    have HX := Lib.hid (of_no (h0.keep (keeps_below b0)) (hK.keep (keeps_below b0)) hck)
    have HCK := Lib.hid hck
    clear hck
    go_enter Tryd.func14, Tryd.ntmps14
    go_wp2_with fail
    rw [← hwb]
    clear hwb
    refine HX.out.mono ?_
    rintro e w3 ⟨q0, q1, q2, q3, q4, q5, q6, q7, rfl, b3⟩
    go_wp2
    go_ret
    exact ⟨ret_bool HF.out.symm, below_alloc' (below_trans b0 b3)⟩
  have HFF := Lib.hid (show leqL L a b = (inAll L.elems.length [a, b] && ordL L a.toNat b.toNat) by unfold leqL; rw [decide_eq_true hck]; rfl)
  have hn8 := (args_parts (check_zero hck).1).1
  have HX := Lib.hid (of_ok (h0.keep (keeps_below b0)) (hK.keep (keeps_below b0)) hck)
  have HCK := Lib.hid hck
  clear hck
  go_enter Tryd.func14, Tryd.ntmps14
  go_wp2_with fail
  rw [← hwb]
  clear hwb
  refine HX.out.mono ?_
  rintro e w3 ⟨q0, q1, q2, q3, q4, q5, q6, q7, rfl, HO, b3⟩
  clear HX y0 y1 y2 y3
  replace b0 := below_trans b0 b3
  replace g0 := block_keep g0 b3
  have hA : OrdAt (w3.alloc (.cells #[.int .u8 q0, .int .u8 q1, .int .u8 q2, .int .u8 q3, .int .u8 q4, .int .u8 q5, .int .u8 q6, .int .u8 q7] 48)) w3.heap.size [q0, q1, q2, q3, q4, q5, q6, q7] := heap_alloc_new w3 _
  have b4 := below_new w3 (.cells #[.int .u8 q0, .int .u8 q1, .int .u8 q2, .int .u8 q3, .int .u8 q4, .int .u8 q5, .int .u8 q6, .int .u8 q7] 48)
  obtain ⟨w4, hw4⟩ : ∃ x : World, x = w3.alloc (.cells #[.int .u8 q0, .int .u8 q1, .int .u8 q2, .int .u8 q3, .int .u8 q4, .int .u8 q5, .int .u8 q6, .int .u8 q7] 48) := ⟨_, rfl⟩
  rw [← hw4] at hA b4
  replace b0 := below_trans b0 b4
  replace g0 := block_keep g0 b4
  clear b3 b4
  go_upto_region 2 with fail
  rw [← hw4]
  clear hw4
  obtain ⟨y0, y1, y2, y3⟩ := Box4.of g0
  have hl : IsInts (w4.alloc (.cells #[.int .i64 a, .int .i64 b] 3)) (.slice (some ⟨w4.heap.size, 0, none⟩) 2 2) [a, b] := ints_lit w4 [a, b] (by simp)
  have b5 := below_new w4 (.cells #[.int .i64 a, .int .i64 b] 3)
  cases hin : inAll L.elems.length [a, b]
  · have HIN := Lib.hid hin
    clear hin
    go_wp2_with fail
    refine (inside_any _ L _ [a, b] _ (h0.keep (keeps_below (below_trans b0 b5))) hl).mono ?_
    rintro e w6 ⟨rfl, b6⟩
    rw [HIN.out]
    go_wp2
    go_ret
    exact ⟨ret_bool (by rw [HFF.out, HIN.out]; rfl), below_trans (below_trans b0 b5) b6⟩
  · have HIN := Lib.hid hin
    obtain ⟨i1, i2, i3, i4⟩ := in_two hin
    clear hin
    go_wp2_with fail
    refine (inside_any _ L _ [a, b] _ (h0.keep (keeps_below (below_trans b0 b5))) hl).mono ?_
    rintro e w6 ⟨rfl, b6⟩
    rw [HIN.out]
    clear y0 y1 y2 y3 hl
    replace hA := (hA.keep b5).keep b6
    obtain ⟨a, rfl⟩ := Int.eq_ofNat_of_zero_le i1
    obtain ⟨b, rfl⟩ := Int.eq_ofNat_of_zero_le i3
    obtain ⟨xa, hxa⟩ : ∃ xa, [q0, q1, q2, q3, q4, q5, q6, q7][a]? = some xa := ⟨_, List.getElem?_eq_getElem (by simp; omega)⟩
    have hIA := HO.out.row a xa hxa
    have hca := hA.cell hxa
    have hta := hIA.test (b := b) (by omega)
    have hx0 := hIA.1
    have hx1 := hIA.2.1
    have ha8 : (a : Int) < 8 := by omega
    have hb8 : (b : Int) < 8 := by omega
    clear hxa hIA
    have HR : Hid (leqL L a b = ordL L a b) := Lib.hid (by rw [HFF.out, HIN.out]; simp)
    cases ho : ordL L a b
    · rw [ho, if_neg (by simp)] at hta
      rw [ho] at HR
      clear ho HFF
      go_wp2
      go_ret
      exact ⟨ret_bool HR.out.symm, below_trans (below_trans b0 b5) b6⟩
    · rw [ho, if_pos rfl] at hta
      rw [ho] at HR
      clear ho HFF
      go_wp2
      go_ret
      exact ⟨ret_bool HR.out.symm, below_trans (below_trans b0 b5) b6⟩
end Go.Proofs.YtkjlflmcojmfgaaDoor
