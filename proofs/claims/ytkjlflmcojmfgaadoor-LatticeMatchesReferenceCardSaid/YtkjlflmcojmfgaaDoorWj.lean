/- The walk of Irreducible. -/
import Derived.Test.YtkjlflmcojmfgaaDoorWi
namespace Go.Proofs.YtkjlflmcojmfgaaDoor
open Go.RowKit
def irrL (L : Ltc) : List Int := if checkL L = 0 then (irr L.elems.length (ordL L)).map fun (a : Nat) => (a : Int) else []
/-- The bounds of the first b elements under a, but a. -/
def upU (n : Nat) (o : Rl2) (a b : Nat) : Nat → Bool := fun c => decide (c < n) && ((List.range b).filter fun x => decide (x ≠ a) && o x a).all fun x => o x c
theorem upU_zero (n : Nat) (o : Rl2) (a : Nat) : upU n o a 0 = fun c => decide (c < n) := by funext c; simp [upU]
theorem upU_skip {n : Nat} {o : Rl2} {a b : Nat} (h : (decide (b ≠ a) && o b a) = false) (c : Nat) : upU n o a (b + 1) c = upU n o a b c := by
  unfold upU
  rw [List.range_succ, List.filter_append]
  simp only [List.filter_cons, List.filter_nil, h]
  simp
theorem upU_take {n : Nat} {o : Rl2} {a b : Nat} (h : (decide (b ≠ a) && o b a) = true) (c : Nat) : upU n o a (b + 1) c = (upU n o a b c && o b c) := by
  unfold upU
  rw [List.range_succ, List.filter_append]
  simp only [List.filter_cons, List.filter_nil, h]
  simp [Bool.and_assoc]
theorem upU_lub (n : Nat) (o : Rl2) (a : Nat) : leastOf n o (upU n o a n) = lub n o (under n o a) := by
  unfold lub
  refine leastOf_congr fun c hc => ?_
  unfold upU under
  rw [decide_eq_true hc, Bool.true_and]
def irrTo (n : Nat) (o : Rl2) (k : Nat) : List Int := ((List.range k).filter fun a => decide (lub n o (under n o a) ≠ (a : Int))).map fun (a : Nat) => (a : Int)
theorem irrTo_take {n : Nat} {o : Rl2} {k : Nat} (h : lub n o (under n o k) ≠ (k : Int)) : irrTo n o (k + 1) = irrTo n o k ++ [(k : Int)] := by
  unfold irrTo
  rw [List.range_succ, List.filter_append, List.map_append]
  simp [h]
theorem irrTo_skip {n : Nat} {o : Rl2} {k : Nat} (h : lub n o (under n o k) = (k : Int)) : irrTo n o (k + 1) = irrTo n o k := by
  unfold irrTo
  rw [List.range_succ, List.filter_append, List.map_append]
  simp [h]
theorem irrTo_len (n : Nat) (o : Rl2) (k : Nat) : (irrTo n o k).length ≤ k := by
  unfold irrTo
  rw [List.length_map]
  exact Nat.le_trans (List.length_filter_le _ _) (by simp)
def IntsRet (l : List Int) (w : World) (e : Ending) (w' : World) : Prop := ∃ a c, e = .returned (.slice a l.length c) ∧ IsInts w' (.slice a l.length c) l ∧ Below w.heap.size w w'
set_option maxHeartbeats 8000000 in
set_option maxRecDepth 100000 in
theorem Irr_any (v : Value) (L : Ltc) (w : World) (h : IsLtc w v L) (hK : KeysAt w 0) : Calls Tryd.prog 23 #[v] w (IntsRet (irrL L) w) := by
  have h0 := h
  obtain ⟨ea, ec, ca, cc, rfl, -, -, m1, m2, m3⟩ := h.shape
  have g0 := heap_alloc_new w (.cells #[.string L.name.1, .slice ea L.elems.length ec, .slice ca L.covers.length cc, .int .i64 L.at_] 25)
  have b0 := below_new w (.cells #[.string L.name.1, .slice ea L.elems.length ec, .slice ca L.covers.length cc, .int .i64 L.at_] 25)
  obtain ⟨wb, hwb⟩ : ∃ x : World, x = w.alloc (.cells #[.string L.name.1, .slice ea L.elems.length ec, .slice ca L.covers.length cc, .int .i64 L.at_] 25) := ⟨_, rfl⟩
  rw [← hwb] at g0 b0
  obtain ⟨y0, y1, y2, y3⟩ := Box4.of g0
  by_cases hck : checkL L = 0
  case neg =>
    have HF := Lib.hid (show irrL L = [] by unfold irrL; rw [if_neg hck])
    have HX := Lib.hid (of_no (h0.keep (keeps_below b0)) (hK.keep (keeps_below b0)) hck)
    have HCK := Lib.hid hck
    clear hck
    go_enter Tryd.func23, Tryd.ntmps23
    go_wp2_with fail
    rw [← hwb]
    clear hwb
    refine HX.out.mono ?_
    rintro e w3 ⟨q0, q1, q2, q3, q4, q5, q6, q7, rfl, b3⟩
    go_wp2
    go_ret
    exact ⟨none, 0, by rw [HF.out]; rfl, by rw [HF.out]; exact IsInts.nil _, below_alloc' (below_trans b0 b3)⟩
  have hn8 := (args_parts (check_zero hck).1).1
  have HF := Lib.hid (show irrL L = irrTo L.elems.length (ordL L) L.elems.length by unfold irrL; rw [if_pos hck]; rfl)
  have HX := Lib.hid (of_ok (h0.keep (keeps_below b0)) (hK.keep (keeps_below b0)) hck)
  have HCK := Lib.hid hck
  clear hck
  go_enter Tryd.func23, Tryd.ntmps23
  go_wp2_with fail
  rw [← hwb]
  clear hwb
  refine HX.out.mono ?_
  rintro e w3 ⟨q0, q1, q2, q3, q4, q5, q6, q7, rfl, HO, b3⟩
  clear HX y0 y1 y2 y3
  replace b0 := below_trans b0 b3
  replace g0 := block_keep g0 b3
  have hA : OrdAt (w3.alloc (.cells #[.int .u8 q0, .int .u8 q1, .int .u8 q2, .int .u8 q3, .int .u8 q4, .int .u8 q5, .int .u8 q6, .int .u8 q7] 48)) w3.heap.size [q0, q1, q2, q3, q4, q5, q6, q7] := heap_alloc_new w3 _
  have b4 := below_new w3 (.cells #[.int .u8 q0, .int .u8 q1, .int .u8 q2, .int .u8 q3, .int .u8 q4, .int .u8 q5, .int .u8 q6, .int .u8 q7] 48)
  obtain ⟨w4, hw4⟩ : ∃ x : World, x = w3.alloc (.cells #[.int .u8 q0, .int .u8 q1, .int .u8 q2, .int .u8 q3, .int .u8 q4, .int .u8 q5, .int .u8 q6, .int .u8 q7] 48) := ⟨_, rfl⟩
  rw [← hw4] at hA b4
  replace b0 := below_trans b0 b4
  replace g0 := block_keep g0 b4
  clear b3 b4
  go_upto_region 2 with fail
  rw [← hw4]
  clear hw4
  obtain ⟨y0, y1, y2, y3⟩ := Box4.of g0
  have hnI : (L.elems.length : Int) ≤ 8 := by omega
  have r0 := hA.cell (a := 0) rfl
  have r1 := hA.cell (a := 1) rfl
  have r2 := hA.cell (a := 2) rfl
  have r3 := hA.cell (a := 3) rfl
  have r4 := hA.cell (a := 4) rfl
  have r5 := hA.cell (a := 5) rfl
  have r6 := hA.cell (a := 6) rfl
  have r7 := hA.cell (a := 7) rfl
  go_wp2
  have HG0 := Lib.hid g0
  have HB0 := Lib.hid b0
  clear y0 y1 y2 y3 r0 r1 r2 r3 r4 r5 r6 r7 g0 b0
  go_loopw [19, 6, 5] (fun i _ out wr => ∃ (k : Nat), k ≤ L.elems.length ∧ i = .int .i64 k ∧ OwnI wr w4.heap.size out (irrTo L.elems.length (ordL L) k) ∧ Below w4.heap.size w4 wr) (fun i _ _ _ => L.elems.length - (intOf i).toNat)
  case atStart => exact ⟨0, Nat.zero_le _, rfl, OwnI.nil _ _, Below.refl _ _⟩
  case round =>
    obtain ⟨a, ha, rfl, hOW, bR⟩ := hrel
    obtain ⟨wo, rfl⟩ : ∃ wo : World, wo = wr := ⟨_, rfl⟩
    obtain ⟨oa, oc, rfl⟩ := hOW.len
    have hln := irrTo_len L.elems.length (ordL L) a
    have HOW := Lib.hid hOW
    clear hOW
    by_cases hlt : a < L.elems.length
    · have hd : decide (a < L.elems.length) = true := decide_eq_true hlt
      have ha8 : (a : Int) < 8 := by omega
      have gR := block_keep HG0.out bR
      obtain ⟨y0, y1, y2, y3⟩ := Box4.of gR
      have hAR := hA.keep bR
      go_wp2
      go_loop [30, 8, 7] (fun i _ u => ∃ (b : Nat) (s : Int), b ≤ L.elems.length ∧ i = .int .i64 b ∧ u = .int .u8 s ∧ Hid (Bits s (upU L.elems.length (ordL L) a b))) (fun i _ _ => L.elems.length - (intOf i).toNat)
      case atStart => exact ⟨0, _, Nat.zero_le _, rfl, rfl, Lib.hid (by rw [upU_zero]; exact bits_full2 hn8)⟩
      case round =>
        obtain ⟨b, s, hb, rfl, rfl, HS⟩ := hrel
        by_cases hltb : b < L.elems.length
        · have hd2 : decide (b < L.elems.length) = true := decide_eq_true hltb
          have hb8 : (b : Int) < 8 := by omega
          obtain ⟨xb, hxb⟩ : ∃ xb, [q0, q1, q2, q3, q4, q5, q6, q7][b]? = some xb := ⟨_, List.getElem?_eq_getElem (by simp; omega)⟩
          have hIB := HO.out.row b xb hxb
          have hcb := hAR.cell hxb
          have htb := hIB.test (b := a) (by omega)
          have hx0 := hIB.1
          have hx1 := hIB.2.1
          have HIB := Lib.hid hIB
          clear hxb hIB
          by_cases hab : b = a
          · have HSK := Lib.hid (fun c => upU_skip (n := L.elems.length) (o := ordL L) (a := a) (b := b) (by rw [decide_eq_false (by simpa using hab)]; rfl) c)
            have hne : ((b : Int) != (a : Int)) = false := by simp [hab]
            have hne2 : (b != a) = false := by simp [hab]
            clear hab htb
            go_wp2
            go_round
            case rel => exact ⟨b + 1, s, by omega, by go_num, rfl, Lib.hid (HS.out.congr fun c _ => (HSK.out c).symm)⟩
            case measure => simp [intOf]; omega
          · have hne : ((b : Int) != (a : Int)) = true := by simp; omega
            have hne2 : (b != a) = true := by simp [hab]
            cases hoba : ordL L b a
            · rw [hoba, if_neg (by simp)] at htb
              have HSK := Lib.hid (fun c => upU_skip (n := L.elems.length) (o := ordL L) (a := a) (b := b) (by rw [hoba]; simp) c)
              clear hoba
              go_wp2
              go_round
              case rel => exact ⟨b + 1, s, by omega, by go_num, rfl, Lib.hid (HS.out.congr fun c _ => (HSK.out c).symm)⟩
              case measure => simp [intOf]; omega
            · rw [hoba, if_pos rfl] at htb
              have HSK := Lib.hid (fun c => upU_take (n := L.elems.length) (o := ordL L) (a := a) (b := b) (by rw [hoba, decide_eq_true hab]; rfl) c)
              clear hoba
              go_wp2
              go_round
              case rel => exact ⟨b + 1, _, by omega, by go_num, rfl, Lib.hid ((HS.out.and HIB.out).congr fun c _ => (HSK.out c).symm)⟩
              case measure => simp [intOf]; omega
        · have e : b = L.elems.length := by omega
          subst e
          have hd2 : decide (L.elems.length < L.elems.length) = false := decide_eq_false hltb
          have HSC := Lib.hid (show ∀ c, c < 8 → upU L.elems.length (ordL L) a L.elems.length c = true → c < L.elems.length from fun c _ h => by unfold upU at h; rw [Bool.and_eq_true] at h; exact of_decide_eq_true h.1)
          obtain ⟨m, HM⟩ : ∃ m, Hid (leastOf L.elems.length (ordL L) (upU L.elems.length (ordL L) a L.elems.length) = m) := ⟨_, Lib.hid rfl⟩
          have r0 := hAR.cell (a := 0) rfl
          have r1 := hAR.cell (a := 1) rfl
          have r2 := hAR.cell (a := 2) rfl
          have r3 := hAR.cell (a := 3) rfl
          have r4 := hAR.cell (a := 4) rfl
          have r5 := hAR.cell (a := 5) rfl
          have r6 := hAR.cell (a := 6) rfl
          have r7 := hAR.cell (a := 7) rfl
          by_cases hma : m = (a : Int)
          · have hq : (m != (a : Int)) = false := by simp [hma]
            have HI := Lib.hid (irrTo_skip (n := L.elems.length) (o := ordL L) (k := a) (by rw [← upU_lub, HM.out, hma]))
            clear hma
            go_wp2_with fail
            refine least_ts HO HS.out HSC.out hn8 HM ?_
            intro w7 b7
            go_wp2
            go_roundw
            case rel => exact ⟨a + 1, by omega, by go_num, by rw [HI.out]; exact HOW.out.keep b7, below_trans bR b7⟩
            case measure => simp [intOf]; omega
          · have hq : (m != (a : Int)) = true := by simpa using hma
            have HI := Lib.hid (irrTo_take (n := L.elems.length) (o := ordL L) (k := a) (by rw [← upU_lub, HM.out]; exact hma))
            clear hma
            go_wp2_with fail
            refine least_ts HO HS.out HSC.out hn8 HM ?_
            intro w7 b7
            have hO7 := HOW.out.keep b7
            have b47 := below_trans bR b7
            clear HOW y0 y1 y2 y3 r0 r1 r2 r3 r4 r5 r6 r7
            generalize irrTo L.elems.length (ordL L) a = l at *
            go_wp2_with (at_builtin; refine wpList_pushI (wr := w7) (x := (a : Int)) (g1 := w7.heap.size) rfl (.tmp 59) (.tmp 61) rfl rfl rfl hO7 (below_new _ _) (heap_alloc_new w7 _) b47.size (by omega) ?_; intro g cap w8 hO8 b8)
            go_roundw
            case rel => exact ⟨a + 1, by omega, by go_num, by rw [HI.out]; exact hO8, b47.trans b8⟩
            case measure => simp [intOf]; omega
    · have e : a = L.elems.length := by omega
      subst e
      have hd : decide (L.elems.length < L.elems.length) = false := decide_eq_false hlt
      go_wp2
      go_ret
      refine ⟨oa, oc, by rw [HF.out]; rfl, ?_, below_trans HB0.out bR⟩
      rw [HF.out]
      exact HOW.out.is (by omega)
end Go.Proofs.YtkjlflmcojmfgaaDoor
