/- The walks of the laws with loops of their own. -/
import Derived.Test.YtcbopckgnbameaaDoorWk
namespace Go.Proofs.YtcbopckgnbameaaDoor
open Go.RowKit
theorem Same_is (va vb : Value) (a b : List Sp) (w : World) (r : Bool) (ha : IsSpans w va a) (hb : IsSpans w vb b) (h : decide (a = b) = r) :
    Calls Tryd.prog 14 #[va, vb] w fun e w' => e = .returned (.bool r) ∧ Below w.heap.size w w' := by
  subst h; exact Same_any va vb a b w ha hb
def sameTo (a b : List Sp) (n : Nat) : Bool := (List.range n).all fun k => setOf a k == setOf b k
theorem sameTo_succ (a b : List Sp) (n : Nat) : sameTo a b (n + 1) = (sameTo a b n && (setOf a n == setOf b n)) := by
  unfold sameTo
  rw [List.range_succ, List.all_append]; simp
theorem sameTo_all (a b : List Sp) : decide (canon (setOf a) = canon (setOf b)) = sameTo a b 64 := by
  rw [Bool.eq_iff_iff, decide_eq_true_iff, canon_inj]
  unfold sameTo
  simp
theorem inSet_nat (a : List Sp) (n : Nat) (h : n < 64) : inSet a (n : Int) = setOf a n := by simp [inSet, setOf]; omega
theorem valid_canon (S : Nat → Bool) : decide (canon S = canon (setOf (canon S))) = true := by rw [canon_again]; simp
theorem size_canon (S : Nat → Bool) : size (canon S) = cntTo S 64 := cntTo_ext fun k hk => setOf_canon S k hk
theorem cnt_or_and (S T : Nat → Bool) (n : Nat) : cntTo (fun k => S k || T k) n + cntTo (fun k => S k && T k) n = cntTo S n + cntTo T n := by
  induction n with
  | zero => rfl
  | succ n ih =>
    rw [cntTo_succ, cntTo_succ, cntTo_succ, cntTo_succ]
    cases S n <;> cases T n <;> simp <;> omega
theorem cnt_not (S : Nat → Bool) (n : Nat) : cntTo S n + cntTo (fun k => !S k) n = n := by
  induction n with
  | zero => rfl
  | succ n ih =>
    rw [cntTo_succ, cntTo_succ]
    cases S n <;> simp <;> omega
theorem size_cnt (a : List Sp) : size a = cntTo (setOf a) 64 := rfl
set_option maxRecDepth 100000 in
set_option maxHeartbeats 4000000 in
theorem law5_any (v_a : Value) (v_b : Value) (l_a : List Sp) (l_b : List Sp)  (w : World) (hT : Tab w) (h_a : IsSpans w v_a l_a) (h_b : IsSpans w v_b l_b) :
    Calls Tryd.prog 5 #[v_a, v_b] w fun e w' => e = .returned (.bool true) ∧ Below w.heap.size w w' := by
  by_cases f_a : l_a.length ≤ 60
  case neg =>
    go_enter Tryd.func5, Tryd.ntmps5
    go_wp2_with fail
    refine (head_any _ hT).mono ?_
    rintro e w1 ⟨rfl, b1⟩
    go_wp2_with fail
    refine (few_is _ _ _ false (h_a.keep b1) (by simp; omega)).mono ?_
    rintro e w2 ⟨rfl, b2⟩
    go_wp2
    go_ret
    exact ⟨rfl, (below_trans b1 b2)⟩
  by_cases f_b : l_b.length ≤ 60
  case neg =>
    go_enter Tryd.func5, Tryd.ntmps5
    go_wp2_with fail
    refine (head_any _ hT).mono ?_
    rintro e w1 ⟨rfl, b1⟩
    go_wp2_with fail
    refine (few_is _ _ _ true (h_a.keep b1) (by simp; omega)).mono ?_
    rintro e w2 ⟨rfl, b2⟩
    go_wp2_with fail
    refine (few_is _ _ _ false (h_b.keep (below_trans b1 b2)) (by simp; omega)).mono ?_
    rintro e w3 ⟨rfl, b3⟩
    go_wp2
    go_ret
    exact ⟨rfl, (below_trans (below_trans b1 b2) b3)⟩
  go_enter Tryd.func5, Tryd.ntmps5
  go_wp2_with fail
  refine (head_any _ hT).mono ?_
  rintro e w1 ⟨rfl, b1⟩
  go_wp2_with fail
  refine (few_is _ _ _ true (h_a.keep b1) (by simp; omega)).mono ?_
  rintro e w2 ⟨rfl, b2⟩
  go_wp2_with fail
  refine (few_is _ _ _ true (h_b.keep (below_trans b1 b2)) (by simp; omega)).mono ?_
  rintro e w3 ⟨rfl, b3⟩
  go_wp2_with fail
  refine (Of_any _ _ _ (hT.keep (below_trans (below_trans b1 b2) b3)) (h_a.keep (below_trans (below_trans b1 b2) b3))).mono ?_
  rintro e w4 ⟨v_x, rfl, h_x, b4⟩
  go_wp2_with fail
  refine (Of_any _ _ _ (hT.keep (below_trans (below_trans (below_trans b1 b2) b3) b4)) (h_b.keep (below_trans (below_trans (below_trans b1 b2) b3) b4))).mono ?_
  rintro e w5 ⟨v_y, rfl, h_y, b5⟩
  go_wp2_with fail
  go_loopw [8, 9] (fun t i wr => ∃ k : Nat, k ≤ 64 ∧ i = .int .i64 k ∧ t = .bool (sameTo l_a l_b k) ∧ Below w5.heap.size w5 wr) (fun _ i _ => 64 - (intOf i).toNat)
  case atStart => exact ⟨0, by omega, rfl, rfl, Below.refl _ _⟩
  case round =>
    obtain ⟨k, hk, rfl, rfl, b6⟩ := hrel
    obtain ⟨w6, rfl⟩ : ∃ x : World, x = wr := ⟨_, rfl⟩
    by_cases hlt : k < 64
    case pos =>
      have HS := Lib.hid (sameTo_succ l_a l_b k)
      obtain ⟨u, hu⟩ : ∃ u, setOf l_a k = u := ⟨_, rfl⟩
      obtain ⟨t, ht⟩ : ∃ t, setOf l_b k = t := ⟨_, rfl⟩
      obtain ⟨r, hr⟩ : ∃ r, sameTo l_a l_b k = r := ⟨_, rfl⟩
      rw [hu, ht, hr] at HS
      have HU := Lib.hid ((inSet_nat l_a k hlt).trans hu)
      have HT := Lib.hid ((inSet_nat l_b k hlt).trans ht)
      rw [hr]
      clear hu ht hr
      cases r
      case false =>
        go_wp2
        go_roundw
        case rel => exact ⟨k + 1, by omega, by go_num, by rw [HS.out]; rfl, b6⟩
        case measure => simp [intOf]; omega
      case true =>
        go_wp2_with fail
        refine (Has_is _ _ _ _ u (h_a.keep (below_trans (below_trans (below_trans (below_trans (below_trans b1 b2) b3) b4) b5) b6)) HU.out).mono ?_
        rintro e w7 ⟨rfl, b7⟩
        go_wp2_with fail
        refine (Has_is _ _ _ _ t (h_b.keep (below_trans (below_trans (below_trans (below_trans (below_trans (below_trans b1 b2) b3) b4) b5) b6) b7)) HT.out).mono ?_
        rintro e w8 ⟨rfl, b8⟩
        go_wp2
        go_roundw
        case rel => exact ⟨k + 1, by omega, by go_num, by rw [HS.out]; simp, (below_trans (below_trans b6 b7) b8)⟩
        case measure => simp [intOf]; omega
    case neg =>
      obtain rfl : k = 64 := by omega
      have HA := Lib.hid (sameTo_all l_a l_b)
      obtain ⟨r, hr⟩ : ∃ r, sameTo l_a l_b 64 = r := ⟨_, rfl⟩
      rw [hr] at HA
      rw [hr]
      clear hr
      obtain ⟨s, hs⟩ : ∃ s, decide (l_a = canon (setOf l_a)) = s := ⟨_, rfl⟩
      have HV := Lib.hid hs
      clear hs
      go_wp2_with fail
      refine (Valid_is _ _ _ true (hT.keep (below_trans (below_trans (below_trans (below_trans (below_trans b1 b2) b3) b4) b5) b6)) (h_x.keep (below_trans b5 b6)) (valid_canon _)).mono ?_
      rintro e w7 ⟨rfl, b7⟩
      go_wp2_with fail
      refine (Union_any _ _ _ _ _ (hT.keep (below_trans (below_trans (below_trans (below_trans (below_trans (below_trans b1 b2) b3) b4) b5) b6) b7)) (h_a.keep (below_trans (below_trans (below_trans (below_trans (below_trans (below_trans b1 b2) b3) b4) b5) b6) b7)) (h_b.keep (below_trans (below_trans (below_trans (below_trans (below_trans (below_trans b1 b2) b3) b4) b5) b6) b7))).mono ?_
      rintro e w8 ⟨v_o0, rfl, h_o0, b8⟩
      go_wp2_with fail
      refine (Valid_is _ _ _ true (hT.keep (below_trans (below_trans (below_trans (below_trans (below_trans (below_trans (below_trans b1 b2) b3) b4) b5) b6) b7) b8)) h_o0 (valid_canon _)).mono ?_
      rintro e w9 ⟨rfl, b9⟩
      go_wp2_with fail
      refine (Meet_any _ _ _ _ _ (hT.keep (below_trans (below_trans (below_trans (below_trans (below_trans (below_trans (below_trans (below_trans b1 b2) b3) b4) b5) b6) b7) b8) b9)) (h_a.keep (below_trans (below_trans (below_trans (below_trans (below_trans (below_trans (below_trans (below_trans b1 b2) b3) b4) b5) b6) b7) b8) b9)) (h_b.keep (below_trans (below_trans (below_trans (below_trans (below_trans (below_trans (below_trans (below_trans b1 b2) b3) b4) b5) b6) b7) b8) b9))).mono ?_
      rintro e w10 ⟨v_o1, rfl, h_o1, b10⟩
      go_wp2_with fail
      refine (Valid_is _ _ _ true (hT.keep (below_trans (below_trans (below_trans (below_trans (below_trans (below_trans (below_trans (below_trans (below_trans b1 b2) b3) b4) b5) b6) b7) b8) b9) b10)) h_o1 (valid_canon _)).mono ?_
      rintro e w11 ⟨rfl, b11⟩
      go_wp2_with fail
      refine (Minus_any _ _ _ _ _ (hT.keep (below_trans (below_trans (below_trans (below_trans (below_trans (below_trans (below_trans (below_trans (below_trans (below_trans b1 b2) b3) b4) b5) b6) b7) b8) b9) b10) b11)) (h_a.keep (below_trans (below_trans (below_trans (below_trans (below_trans (below_trans (below_trans (below_trans (below_trans (below_trans b1 b2) b3) b4) b5) b6) b7) b8) b9) b10) b11)) (h_b.keep (below_trans (below_trans (below_trans (below_trans (below_trans (below_trans (below_trans (below_trans (below_trans (below_trans b1 b2) b3) b4) b5) b6) b7) b8) b9) b10) b11))).mono ?_
      rintro e w12 ⟨v_o2, rfl, h_o2, b12⟩
      go_wp2_with fail
      refine (Valid_is _ _ _ true (hT.keep (below_trans (below_trans (below_trans (below_trans (below_trans (below_trans (below_trans (below_trans (below_trans (below_trans (below_trans b1 b2) b3) b4) b5) b6) b7) b8) b9) b10) b11) b12)) h_o2 (valid_canon _)).mono ?_
      rintro e w13 ⟨rfl, b13⟩
      go_wp2_with fail
      refine (Not_any _ _ _ (hT.keep (below_trans (below_trans (below_trans (below_trans (below_trans (below_trans (below_trans (below_trans (below_trans (below_trans (below_trans (below_trans b1 b2) b3) b4) b5) b6) b7) b8) b9) b10) b11) b12) b13)) (h_a.keep (below_trans (below_trans (below_trans (below_trans (below_trans (below_trans (below_trans (below_trans (below_trans (below_trans (below_trans (below_trans b1 b2) b3) b4) b5) b6) b7) b8) b9) b10) b11) b12) b13))).mono ?_
      rintro e w14 ⟨v_o3, rfl, h_o3, b14⟩
      go_wp2_with fail
      refine (Valid_is _ _ _ true (hT.keep (below_trans (below_trans (below_trans (below_trans (below_trans (below_trans (below_trans (below_trans (below_trans (below_trans (below_trans (below_trans (below_trans b1 b2) b3) b4) b5) b6) b7) b8) b9) b10) b11) b12) b13) b14)) h_o3 (valid_canon _)).mono ?_
      rintro e w15 ⟨rfl, b15⟩
      go_wp2_with fail
      refine (Valid_is _ _ _ s (hT.keep (below_trans (below_trans (below_trans (below_trans (below_trans (below_trans (below_trans (below_trans (below_trans (below_trans (below_trans (below_trans (below_trans (below_trans b1 b2) b3) b4) b5) b6) b7) b8) b9) b10) b11) b12) b13) b14) b15)) (h_a.keep (below_trans (below_trans (below_trans (below_trans (below_trans (below_trans (below_trans (below_trans (below_trans (below_trans (below_trans (below_trans (below_trans (below_trans b1 b2) b3) b4) b5) b6) b7) b8) b9) b10) b11) b12) b13) b14) b15)) HV.out).mono ?_
      rintro e w16 ⟨rfl, b16⟩
      go_wp2_with fail
      refine (Same_is _ _ _ _ _ s (h_a.keep (below_trans (below_trans (below_trans (below_trans (below_trans (below_trans (below_trans (below_trans (below_trans (below_trans (below_trans (below_trans (below_trans (below_trans (below_trans b1 b2) b3) b4) b5) b6) b7) b8) b9) b10) b11) b12) b13) b14) b15) b16)) (h_x.keep (below_trans (below_trans (below_trans (below_trans (below_trans (below_trans (below_trans (below_trans (below_trans (below_trans (below_trans b5 b6) b7) b8) b9) b10) b11) b12) b13) b14) b15) b16)) HV.out).mono ?_
      rintro e w17 ⟨rfl, b17⟩
      go_wp2_with fail
      refine (Same_is _ _ _ _ _ r (h_x.keep (below_trans (below_trans (below_trans (below_trans (below_trans (below_trans (below_trans (below_trans (below_trans (below_trans (below_trans (below_trans b5 b6) b7) b8) b9) b10) b11) b12) b13) b14) b15) b16) b17)) (h_y.keep (below_trans (below_trans (below_trans (below_trans (below_trans (below_trans (below_trans (below_trans (below_trans (below_trans (below_trans b6 b7) b8) b9) b10) b11) b12) b13) b14) b15) b16) b17)) HA.out).mono ?_
      rintro e w18 ⟨rfl, b18⟩
      go_wp2
      go_ret
      exact ⟨rfl, (below_trans (below_trans (below_trans (below_trans (below_trans (below_trans (below_trans (below_trans (below_trans (below_trans (below_trans (below_trans (below_trans (below_trans (below_trans (below_trans (below_trans b1 b2) b3) b4) b5) b6) b7) b8) b9) b10) b11) b12) b13) b14) b15) b16) b17) b18)⟩
set_option maxRecDepth 100000 in
set_option maxHeartbeats 4000000 in
theorem law7_any (v_a : Value) (v_b : Value) (l_a : List Sp) (l_b : List Sp)  (w : World) (hT : Tab w) (h_a : IsSpans w v_a l_a) (h_b : IsSpans w v_b l_b) :
    Calls Tryd.prog 7 #[v_a, v_b] w fun e w' => e = .returned (.bool true) ∧ Below w.heap.size w w' := by
  by_cases f_a : l_a.length ≤ 60
  case neg =>
    go_enter Tryd.func7, Tryd.ntmps7
    go_wp2_with fail
    refine (head_any _ hT).mono ?_
    rintro e w1 ⟨rfl, b1⟩
    go_wp2_with fail
    refine (few_is _ _ _ false (h_a.keep b1) (by simp; omega)).mono ?_
    rintro e w2 ⟨rfl, b2⟩
    go_wp2
    go_ret
    exact ⟨rfl, (below_trans b1 b2)⟩
  by_cases f_b : l_b.length ≤ 60
  case neg =>
    go_enter Tryd.func7, Tryd.ntmps7
    go_wp2_with fail
    refine (head_any _ hT).mono ?_
    rintro e w1 ⟨rfl, b1⟩
    go_wp2_with fail
    refine (few_is _ _ _ true (h_a.keep b1) (by simp; omega)).mono ?_
    rintro e w2 ⟨rfl, b2⟩
    go_wp2_with fail
    refine (few_is _ _ _ false (h_b.keep (below_trans b1 b2)) (by simp; omega)).mono ?_
    rintro e w3 ⟨rfl, b3⟩
    go_wp2
    go_ret
    exact ⟨rfl, (below_trans (below_trans b1 b2) b3)⟩
  go_enter Tryd.func7, Tryd.ntmps7
  go_wp2_with fail
  refine (head_any _ hT).mono ?_
  rintro e w1 ⟨rfl, b1⟩
  go_wp2_with fail
  refine (few_is _ _ _ true (h_a.keep b1) (by simp; omega)).mono ?_
  rintro e w2 ⟨rfl, b2⟩
  go_wp2_with fail
  refine (few_is _ _ _ true (h_b.keep (below_trans b1 b2)) (by simp; omega)).mono ?_
  rintro e w3 ⟨rfl, b3⟩
  go_wp2_with fail
  go_loopw [6, 7] (fun t i wr => ∃ k : Nat, k ≤ 64 ∧ i = .int .i64 k ∧ t = .int .i64 (cntTo (setOf l_a) k) ∧ Below w3.heap.size w3 wr) (fun _ i _ => 64 - (intOf i).toNat)
  case atStart => exact ⟨0, by omega, rfl, rfl, Below.refl _ _⟩
  case round =>
    obtain ⟨k, hk, rfl, rfl, b4⟩ := hrel
    obtain ⟨w4, rfl⟩ : ∃ x : World, x = wr := ⟨_, rfl⟩
    have hle := cntTo_le (setOf l_a) k
    by_cases hlt : k < 64
    case pos =>
      have HS := Lib.hid (cntTo_succ (setOf l_a) k)
      obtain ⟨u, hu⟩ : ∃ u, setOf l_a k = u := ⟨_, rfl⟩
      rw [hu] at HS
      have HU := Lib.hid ((inSet_nat l_a k hlt).trans hu)
      clear hu
      go_wp2_with fail
      refine (Has_is _ _ _ _ u (h_a.keep (below_trans (below_trans (below_trans b1 b2) b3) b4)) HU.out).mono ?_
      rintro e w5 ⟨rfl, b5⟩
      cases u
      all_goals
        go_wp2
        go_roundw
        case rel => exact ⟨k + 1, by omega, by go_num, by rw [HS.out]; simp, (below_trans b4 b5)⟩
        case measure => simp [intOf]; omega
    case neg =>
      obtain rfl : k = 64 := by omega
      have e1 := cnt_or_and (setOf l_a) (setOf l_b) 64
      have e2 := cnt_not (setOf l_a) 64
      have z0 := size_cnt l_a
      have z1 := size_cnt l_b
      have z2 := size_canon (fun k => setOf l_a k || setOf l_b k)
      have z3 := size_canon (fun k => setOf l_a k && setOf l_b k)
      have z4 := size_canon (fun k => !setOf l_a k)
      have y2 := cntTo_le (fun k => setOf l_a k || setOf l_b k) 64
      have y3 := cntTo_le (fun k => setOf l_a k && setOf l_b k) 64
      have y4 := cntTo_le (fun k => !setOf l_a k) 64
      have y1 := cntTo_le (setOf l_b) 64
      generalize cntTo (fun k => setOf l_a k || setOf l_b k) 64 = su at *
      generalize cntTo (fun k => setOf l_a k && setOf l_b k) 64 = sm at *
      generalize cntTo (fun k => !setOf l_a k) 64 = sn at *
      generalize cntTo (setOf l_a) 64 = sa at *
      generalize cntTo (setOf l_b) 64 = sb at *
      have t1 : ((su : Int) + sm == (sa : Int) + sb) = true := by rw [beq_iff_eq]; omega
      have t2 : ((sa : Int) + sn == 64) = true := by rw [beq_iff_eq]; omega
      have Z0 := Lib.hid z0
      have Z1 := Lib.hid z1
      have Z2 := Lib.hid z2
      have Z3 := Lib.hid z3
      have Z4 := Lib.hid z4
      clear e1 e2 z0 z1 z2 z3 z4
      go_wp2_with fail
      refine (Size_is _ _ _ sa (h_a.keep (below_trans (below_trans (below_trans b1 b2) b3) b4)) Z0.out).mono ?_
      rintro e w5 ⟨rfl, b5⟩
      go_wp2_with fail
      refine (Union_any _ _ _ _ _ (hT.keep (below_trans (below_trans (below_trans (below_trans b1 b2) b3) b4) b5)) (h_a.keep (below_trans (below_trans (below_trans (below_trans b1 b2) b3) b4) b5)) (h_b.keep (below_trans (below_trans (below_trans (below_trans b1 b2) b3) b4) b5))).mono ?_
      rintro e w6 ⟨v_u, rfl, h_u, b6⟩
      go_wp2_with fail
      refine (Size_is _ _ _ su h_u Z2.out).mono ?_
      rintro e w7 ⟨rfl, b7⟩
      go_wp2_with fail
      refine (Meet_any _ _ _ _ _ (hT.keep (below_trans (below_trans (below_trans (below_trans (below_trans (below_trans b1 b2) b3) b4) b5) b6) b7)) (h_a.keep (below_trans (below_trans (below_trans (below_trans (below_trans (below_trans b1 b2) b3) b4) b5) b6) b7)) (h_b.keep (below_trans (below_trans (below_trans (below_trans (below_trans (below_trans b1 b2) b3) b4) b5) b6) b7))).mono ?_
      rintro e w8 ⟨v_m, rfl, h_m, b8⟩
      go_wp2_with fail
      refine (Size_is _ _ _ sm h_m Z3.out).mono ?_
      rintro e w9 ⟨rfl, b9⟩
      go_wp2_with fail
      refine (Size_is _ _ _ sa (h_a.keep (below_trans (below_trans (below_trans (below_trans (below_trans (below_trans (below_trans (below_trans b1 b2) b3) b4) b5) b6) b7) b8) b9)) Z0.out).mono ?_
      rintro e w10 ⟨rfl, b10⟩
      go_wp2_with fail
      refine (Size_is _ _ _ sb (h_b.keep (below_trans (below_trans (below_trans (below_trans (below_trans (below_trans (below_trans (below_trans (below_trans b1 b2) b3) b4) b5) b6) b7) b8) b9) b10)) Z1.out).mono ?_
      rintro e w11 ⟨rfl, b11⟩
      go_wp2_with fail
      refine (Size_is _ _ _ sa (h_a.keep (below_trans (below_trans (below_trans (below_trans (below_trans (below_trans (below_trans (below_trans (below_trans (below_trans b1 b2) b3) b4) b5) b6) b7) b8) b9) b10) b11)) Z0.out).mono ?_
      rintro e w12 ⟨rfl, b12⟩
      go_wp2_with fail
      refine (Not_any _ _ _ (hT.keep (below_trans (below_trans (below_trans (below_trans (below_trans (below_trans (below_trans (below_trans (below_trans (below_trans (below_trans b1 b2) b3) b4) b5) b6) b7) b8) b9) b10) b11) b12)) (h_a.keep (below_trans (below_trans (below_trans (below_trans (below_trans (below_trans (below_trans (below_trans (below_trans (below_trans (below_trans b1 b2) b3) b4) b5) b6) b7) b8) b9) b10) b11) b12))).mono ?_
      rintro e w13 ⟨v_n, rfl, h_n, b13⟩
      go_wp2_with fail
      refine (Size_is _ _ _ sn h_n Z4.out).mono ?_
      rintro e w14 ⟨rfl, b14⟩
      go_wp2
      go_ret
      exact ⟨rfl, (below_trans (below_trans (below_trans (below_trans (below_trans (below_trans (below_trans (below_trans (below_trans (below_trans (below_trans (below_trans (below_trans b1 b2) b3) b4) b5) b6) b7) b8) b9) b10) b11) b12) b13) b14)⟩
end Go.Proofs.YtcbopckgnbameaaDoor
