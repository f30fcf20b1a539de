/- The walks of the laws IntervalPoints and IntervalGaps. -/
import Derived.Test.YtcbopckgnbameaaDoorWl
namespace Go.Proofs.YtcbopckgnbameaaDoor
open Go.RowKit
theorem inSet_canon (S : Nat → Bool) (z : Int) : inSet (canon S) z = (decide (0 ≤ z) && decide (z < 64) && S z.toNat) := by
  unfold inSet
  rw [has_canon]
  cases decide (0 ≤ z) <;> cases decide (z < 64) <;> simp
theorem inSet_of (a : List Sp) (z : Int) : inSet a z = (decide (0 ≤ z) && decide (z < 64) && setOf a z.toNat) := by
  unfold inSet setOf
  by_cases h : 0 ≤ z
  · have : ((z.toNat : Nat) : Int) = z := by omega
    rw [this]
  · simp [h]
theorem in_of (a : List Sp) (z : Int) : inSet (canon (setOf a)) z = inSet a z := by rw [inSet_canon, inSet_of]
theorem in_union (a b : List Sp) (z : Int) : inSet (canon fun k => setOf a k || setOf b k) z = (inSet a z || inSet b z) := by
  rw [inSet_canon, inSet_of, inSet_of]
  cases decide (0 ≤ z) <;> cases decide (z < 64) <;> simp
theorem in_meet (a b : List Sp) (z : Int) : inSet (canon fun k => setOf a k && setOf b k) z = (inSet a z && inSet b z) := by
  rw [inSet_canon, inSet_of, inSet_of]
  cases decide (0 ≤ z) <;> cases decide (z < 64) <;> simp
theorem in_minus (a b : List Sp) (z : Int) : inSet (canon fun k => setOf a k && !setOf b k) z = (inSet a z && !inSet b z) := by
  rw [inSet_canon, inSet_of, inSet_of]
  cases decide (0 ≤ z) <;> cases decide (z < 64) <;> simp
theorem in_not (a : List Sp) (z : Int) : inSet (canon fun k => !setOf a k) z = (!inSet a z && decide (0 ≤ z) && decide (z < 64)) := by
  rw [inSet_canon, inSet_of]
  cases decide (0 ≤ z) <;> cases decide (z < 64) <;> simp
/-- Whether z is a moment of one of the first i spans. -/
def insideTo (a : List Sp) (z : Int) (i : Nat) : Bool := inSet (a.take i) z
theorem insideTo_zero (a : List Sp) (z : Int) : insideTo a z 0 = false := by simp [insideTo, inSet, has]
theorem insideTo_succ (a : List Sp) (z : Int) (i : Nat) (h : i < a.length) : insideTo a z (i + 1) = (insideTo a z i || (decide (0 ≤ z) && decide (z < 64) && (decide ((a.getD i (0, 0)).1 ≤ z) && decide (z < (a.getD i (0, 0)).2)))) := by
  unfold insideTo inSet
  rw [List.take_succ_eq_append_getElem h, has_append, has_cons, has_nil, Bool.or_false]
  have e : a.getD i (0, 0) = a[i] := by simp [h]
  rw [e]
  cases decide (0 ≤ z) <;> cases decide (z < 64) <;> simp
theorem insideTo_all (a : List Sp) (z : Int) : insideTo a z a.length = inSet a z := by simp [insideTo]
set_option maxRecDepth 100000 in
set_option maxHeartbeats 4000000 in
theorem law4_any (v_a : Value) (v_b : Value) (l_a : List Sp) (l_b : List Sp)  (w : World) (hT : Tab w) (h_a : IsSpans w v_a l_a) (h_b : IsSpans w v_b l_b) :
    Calls Tryd.prog 4 #[v_a, v_b] w fun e w' => e = .returned (.bool true) ∧ Below w.heap.size w w' := by
  have h_a0 := h_a
  obtain ⟨aa, ca, rfl, hsa, hma⟩ := h_a0
  by_cases f_a : l_a.length ≤ 60
  case neg =>
    go_enter Tryd.func4, Tryd.ntmps4
    go_wp2_with fail
    refine (head_any _ hT).mono ?_
    rintro e w1 ⟨rfl, b1⟩
    go_wp2_with fail
    refine (few_is _ _ _ false (h_a.keep b1) (by simp; omega)).mono ?_
    rintro e w2 ⟨rfl, b2⟩
    go_wp2
    go_ret
    exact ⟨rfl, (below_trans b1 b2)⟩
  by_cases f_b : l_b.length ≤ 60
  case neg =>
    go_enter Tryd.func4, Tryd.ntmps4
    go_wp2_with fail
    refine (head_any _ hT).mono ?_
    rintro e w1 ⟨rfl, b1⟩
    go_wp2_with fail
    refine (few_is _ _ _ true (h_a.keep b1) (by simp; omega)).mono ?_
    rintro e w2 ⟨rfl, b2⟩
    go_wp2_with fail
    refine (few_is _ _ _ false (h_b.keep (below_trans b1 b2)) (by simp; omega)).mono ?_
    rintro e w3 ⟨rfl, b3⟩
    go_wp2
    go_ret
    exact ⟨rfl, (below_trans (below_trans b1 b2) b3)⟩
  go_enter Tryd.func4, Tryd.ntmps4
  go_wp2_with fail
  refine (head_any _ hT).mono ?_
  rintro e w1 ⟨rfl, b1⟩
  go_wp2_with fail
  refine (few_is _ _ _ true (h_a.keep b1) (by simp; omega)).mono ?_
  rintro e w2 ⟨rfl, b2⟩
  go_wp2_with fail
  refine (few_is _ _ _ true (h_b.keep (below_trans b1 b2)) (by simp; omega)).mono ?_
  rintro e w3 ⟨rfl, b3⟩
  go_wp2_with fail
  refine (Of_any _ _ _ (hT.keep (below_trans (below_trans b1 b2) b3)) (h_a.keep (below_trans (below_trans b1 b2) b3))).mono ?_
  rintro e w4 ⟨v_o, rfl, h_o, b4⟩
  go_wp2_with fail
  refine (Union_any _ _ _ _ _ (hT.keep (below_trans (below_trans (below_trans b1 b2) b3) b4)) (h_a.keep (below_trans (below_trans (below_trans b1 b2) b3) b4)) (h_b.keep (below_trans (below_trans (below_trans b1 b2) b3) b4))).mono ?_
  rintro e w5 ⟨v_u, rfl, h_u, b5⟩
  go_wp2_with fail
  refine (Meet_any _ _ _ _ _ (hT.keep (below_trans (below_trans (below_trans (below_trans b1 b2) b3) b4) b5)) (h_a.keep (below_trans (below_trans (below_trans (below_trans b1 b2) b3) b4) b5)) (h_b.keep (below_trans (below_trans (below_trans (below_trans b1 b2) b3) b4) b5))).mono ?_
  rintro e w6 ⟨v_m, rfl, h_m, b6⟩
  go_wp2_with fail
  refine (Minus_any _ _ _ _ _ (hT.keep (below_trans (below_trans (below_trans (below_trans (below_trans b1 b2) b3) b4) b5) b6)) (h_a.keep (below_trans (below_trans (below_trans (below_trans (below_trans b1 b2) b3) b4) b5) b6)) (h_b.keep (below_trans (below_trans (below_trans (below_trans (below_trans b1 b2) b3) b4) b5) b6))).mono ?_
  rintro e w7 ⟨v_d, rfl, h_d, b7⟩
  go_wp2_with fail
  refine (Not_any _ _ _ (hT.keep (below_trans (below_trans (below_trans (below_trans (below_trans (below_trans b1 b2) b3) b4) b5) b6) b7)) (h_a.keep (below_trans (below_trans (below_trans (below_trans (below_trans (below_trans b1 b2) b3) b4) b5) b6) b7))).mono ?_
  rintro e w8 ⟨v_n, rfl, h_n, b8⟩
  go_wp2_with fail
  go_loopw [11, 12, 13, 14, 15] (fun i _ _ _ _ wr => ∃ z : Int, -2 ≤ z ∧ z ≤ 67 ∧ i = .int .i64 z ∧ Below w8.heap.size w8 wr) (fun i _ _ _ _ _ => (67 - intOf i).toNat)
  case atStart => exact ⟨-2, by omega, by omega, rfl, Below.refl _ _⟩
  case round =>
    obtain ⟨z, hz1, hz2, rfl, b9⟩ := hrel
    obtain ⟨w9, rfl⟩ : ∃ x : World, x = wr := ⟨_, rfl⟩
    by_cases hlt : z < 67
    case neg =>
      go_wp2
      go_ret
      exact ⟨rfl, (below_trans (below_trans (below_trans (below_trans (below_trans (below_trans (below_trans (below_trans b1 b2) b3) b4) b5) b6) b7) b8) b9)⟩
    case pos =>
      obtain ⟨s, hs⟩ : ∃ s, inSet l_a z = s := ⟨_, rfl⟩
      obtain ⟨t, ht⟩ : ∃ t, inSet l_b z = t := ⟨_, rfl⟩
      have QO := Lib.hid (in_of l_a z)
      have QU := Lib.hid (in_union l_a l_b z)
      have QM := Lib.hid (in_meet l_a l_b z)
      have QD := Lib.hid (in_minus l_a l_b z)
      have QN := Lib.hid (in_not l_a z)
      have QI := Lib.hid (insideTo_all l_a z)
      have QR := Lib.hid (show inSet l_a z = true → 0 ≤ z ∧ z < 64 from by unfold inSet; intro h; simp at h; omega)
      rw [hs] at QO QN QI QR
      rw [hs, ht] at QU QM QD
      have HS := Lib.hid hs
      have HT := Lib.hid ht
      clear hs ht
      go_wp2_with fail
      refine (Has_is _ _ _ _ s (h_a.keep (below_trans (below_trans (below_trans (below_trans (below_trans (below_trans (below_trans (below_trans b1 b2) b3) b4) b5) b6) b7) b8) b9)) HS.out).mono ?_
      rintro e w10 ⟨rfl, b10⟩
      go_wp2_with fail
      refine (Has_is _ _ _ _ t (h_b.keep (below_trans (below_trans (below_trans (below_trans (below_trans (below_trans (below_trans (below_trans (below_trans b1 b2) b3) b4) b5) b6) b7) b8) b9) b10)) HT.out).mono ?_
      rintro e w11 ⟨rfl, b11⟩
      go_wp2_with fail
      go_loop [14, 15] (fun t i => ∃ j : Nat, j ≤ l_a.length ∧ i = .int .i64 j ∧ t = .bool (insideTo l_a z j)) (fun _ i => l_a.length - (intOf i).toNat)
      case atStart => exact ⟨0, by omega, rfl, by rw [insideTo_zero]⟩
      case round =>
        obtain ⟨j, hj, rfl, rfl⟩ := hrel
        by_cases hlj : j < l_a.length
        case pos =>
          obtain ⟨bb, off, rfl, hcs⟩ := (hsa.keep (below_trans (below_trans (below_trans (below_trans (below_trans (below_trans (below_trans (below_trans (below_trans (below_trans b1 b2) b3) b4) b5) b6) b7) b8) b9) b10) b11)).at_ hlj
          obtain ⟨c1, c2⟩ := hcs j hlj
          clear hcs
          have HI := Lib.hid (insideTo_succ l_a z j hlj)
          generalize l_a.getD j (0, 0) = sp at *
          obtain ⟨p, q⟩ := sp
          dsimp only at c1 c2
          obtain ⟨r, hr⟩ : ∃ r, insideTo l_a z j = r := ⟨_, rfl⟩
          rw [hr] at HI
          rw [hr]
          clear hr
          cases r
          case true =>
            go_wp2
            go_round
            case rel => exact ⟨j + 1, by omega, by go_num, by rw [HI.out]; simp; try omega⟩
            case measure => simp [intOf]; omega
          case false =>
            by_cases x0 : 0 ≤ z
            case neg =>
              go_wp2
              go_round
              case rel => exact ⟨j + 1, by omega, by go_num, by rw [HI.out]; simp; try omega⟩
              case measure => simp [intOf]; omega
            case pos =>
              by_cases x1 : z < 64
              case neg =>
                go_wp2
                go_round
                case rel => exact ⟨j + 1, by omega, by go_num, by rw [HI.out]; simp; try omega⟩
                case measure => simp [intOf]; omega
              case pos =>
                by_cases x2 : p ≤ z
                case neg =>
                  go_wp2
                  go_round
                  case rel => exact ⟨j + 1, by omega, by go_num, by rw [HI.out]; simp; try omega⟩
                  case measure => simp [intOf]; omega
                case pos =>
                  by_cases x3 : z < q
                  case neg =>
                    go_wp2
                    go_round
                    case rel => exact ⟨j + 1, by omega, by go_num, by rw [HI.out]; simp; try omega⟩
                    case measure => simp [intOf]; omega
                  case pos =>
                    go_wp2
                    go_round
                    case rel => exact ⟨j + 1, by omega, by go_num, by rw [HI.out]; simp; try omega⟩
                    case measure => simp [intOf]; omega
        case neg =>
          obtain rfl : j = l_a.length := by omega
          rw [QI.out]
          cases s
          case false =>
            cases t
            case false =>
              by_cases y1 : 0 ≤ z
              case neg =>
                go_wp2_with fail
                refine (Has_is _ _ _ _ false (h_o.keep (below_trans (below_trans (below_trans (below_trans (below_trans (below_trans b5 b6) b7) b8) b9) b10) b11)) QO.out).mono ?_
                rintro e w12 ⟨rfl, b12⟩
                go_wp2_with fail
                refine (Has_is _ _ _ _ false (h_u.keep (below_trans (below_trans (below_trans (below_trans (below_trans (below_trans b6 b7) b8) b9) b10) b11) b12)) QU.out).mono ?_
                rintro e w13 ⟨rfl, b13⟩
                go_wp2_with fail
                refine (Has_is _ _ _ _ false (h_m.keep (below_trans (below_trans (below_trans (below_trans (below_trans (below_trans b7 b8) b9) b10) b11) b12) b13)) QM.out).mono ?_
                rintro e w14 ⟨rfl, b14⟩
                go_wp2_with fail
                refine (Has_is _ _ _ _ false (h_d.keep (below_trans (below_trans (below_trans (below_trans (below_trans (below_trans b8 b9) b10) b11) b12) b13) b14)) QD.out).mono ?_
                rintro e w15 ⟨rfl, b15⟩
                go_wp2_with fail
                refine (Has_is _ _ _ _ false (h_n.keep (below_trans (below_trans (below_trans (below_trans (below_trans (below_trans b9 b10) b11) b12) b13) b14) b15)) (by rw [QN.out]; simp; omega)).mono ?_
                rintro e w16 ⟨rfl, b16⟩
                go_wp2
                go_roundw
                case rel => exact ⟨z + 1, by omega, by omega, rfl, (below_trans (below_trans (below_trans (below_trans (below_trans (below_trans (below_trans b9 b10) b11) b12) b13) b14) b15) b16)⟩
                case measure => simp [intOf]; omega
              case pos =>
                by_cases y2 : z < 64
                case neg =>
                  go_wp2_with fail
                  refine (Has_is _ _ _ _ false (h_o.keep (below_trans (below_trans (below_trans (below_trans (below_trans (below_trans b5 b6) b7) b8) b9) b10) b11)) QO.out).mono ?_
                  rintro e w12 ⟨rfl, b12⟩
                  go_wp2_with fail
                  refine (Has_is _ _ _ _ false (h_u.keep (below_trans (below_trans (below_trans (below_trans (below_trans (below_trans b6 b7) b8) b9) b10) b11) b12)) QU.out).mono ?_
                  rintro e w13 ⟨rfl, b13⟩
                  go_wp2_with fail
                  refine (Has_is _ _ _ _ false (h_m.keep (below_trans (below_trans (below_trans (below_trans (below_trans (below_trans b7 b8) b9) b10) b11) b12) b13)) QM.out).mono ?_
                  rintro e w14 ⟨rfl, b14⟩
                  go_wp2_with fail
                  refine (Has_is _ _ _ _ false (h_d.keep (below_trans (below_trans (below_trans (below_trans (below_trans (below_trans b8 b9) b10) b11) b12) b13) b14)) QD.out).mono ?_
                  rintro e w15 ⟨rfl, b15⟩
                  go_wp2_with fail
                  refine (Has_is _ _ _ _ false (h_n.keep (below_trans (below_trans (below_trans (below_trans (below_trans (below_trans b9 b10) b11) b12) b13) b14) b15)) (by rw [QN.out]; simp; omega)).mono ?_
                  rintro e w16 ⟨rfl, b16⟩
                  go_wp2
                  go_roundw
                  case rel => exact ⟨z + 1, by omega, by omega, rfl, (below_trans (below_trans (below_trans (below_trans (below_trans (below_trans (below_trans b9 b10) b11) b12) b13) b14) b15) b16)⟩
                  case measure => simp [intOf]; omega
                case pos =>
                  go_wp2_with fail
                  refine (Has_is _ _ _ _ false (h_o.keep (below_trans (below_trans (below_trans (below_trans (below_trans (below_trans b5 b6) b7) b8) b9) b10) b11)) QO.out).mono ?_
                  rintro e w12 ⟨rfl, b12⟩
                  go_wp2_with fail
                  refine (Has_is _ _ _ _ false (h_u.keep (below_trans (below_trans (below_trans (below_trans (below_trans (below_trans b6 b7) b8) b9) b10) b11) b12)) QU.out).mono ?_
                  rintro e w13 ⟨rfl, b13⟩
                  go_wp2_with fail
                  refine (Has_is _ _ _ _ false (h_m.keep (below_trans (below_trans (below_trans (below_trans (below_trans (below_trans b7 b8) b9) b10) b11) b12) b13)) QM.out).mono ?_
                  rintro e w14 ⟨rfl, b14⟩
                  go_wp2_with fail
                  refine (Has_is _ _ _ _ false (h_d.keep (below_trans (below_trans (below_trans (below_trans (below_trans (below_trans b8 b9) b10) b11) b12) b13) b14)) QD.out).mono ?_
                  rintro e w15 ⟨rfl, b15⟩
                  go_wp2_with fail
                  refine (Has_is _ _ _ _ true (h_n.keep (below_trans (below_trans (below_trans (below_trans (below_trans (below_trans b9 b10) b11) b12) b13) b14) b15)) (by rw [QN.out]; simp; omega)).mono ?_
                  rintro e w16 ⟨rfl, b16⟩
                  go_wp2
                  go_roundw
                  case rel => exact ⟨z + 1, by omega, by omega, rfl, (below_trans (below_trans (below_trans (below_trans (below_trans (below_trans (below_trans b9 b10) b11) b12) b13) b14) b15) b16)⟩
                  case measure => simp [intOf]; omega
            case true =>
              by_cases y1 : 0 ≤ z
              case neg =>
                go_wp2_with fail
                refine (Has_is _ _ _ _ false (h_o.keep (below_trans (below_trans (below_trans (below_trans (below_trans (below_trans b5 b6) b7) b8) b9) b10) b11)) QO.out).mono ?_
                rintro e w12 ⟨rfl, b12⟩
                go_wp2_with fail
                refine (Has_is _ _ _ _ true (h_u.keep (below_trans (below_trans (below_trans (below_trans (below_trans (below_trans b6 b7) b8) b9) b10) b11) b12)) QU.out).mono ?_
                rintro e w13 ⟨rfl, b13⟩
                go_wp2_with fail
                refine (Has_is _ _ _ _ false (h_m.keep (below_trans (below_trans (below_trans (below_trans (below_trans (below_trans b7 b8) b9) b10) b11) b12) b13)) QM.out).mono ?_
                rintro e w14 ⟨rfl, b14⟩
                go_wp2_with fail
                refine (Has_is _ _ _ _ false (h_d.keep (below_trans (below_trans (below_trans (below_trans (below_trans (below_trans b8 b9) b10) b11) b12) b13) b14)) QD.out).mono ?_
                rintro e w15 ⟨rfl, b15⟩
                go_wp2_with fail
                refine (Has_is _ _ _ _ false (h_n.keep (below_trans (below_trans (below_trans (below_trans (below_trans (below_trans b9 b10) b11) b12) b13) b14) b15)) (by rw [QN.out]; simp; omega)).mono ?_
                rintro e w16 ⟨rfl, b16⟩
                go_wp2
                go_roundw
                case rel => exact ⟨z + 1, by omega, by omega, rfl, (below_trans (below_trans (below_trans (below_trans (below_trans (below_trans (below_trans b9 b10) b11) b12) b13) b14) b15) b16)⟩
                case measure => simp [intOf]; omega
              case pos =>
                by_cases y2 : z < 64
                case neg =>
                  go_wp2_with fail
                  refine (Has_is _ _ _ _ false (h_o.keep (below_trans (below_trans (below_trans (below_trans (below_trans (below_trans b5 b6) b7) b8) b9) b10) b11)) QO.out).mono ?_
                  rintro e w12 ⟨rfl, b12⟩
                  go_wp2_with fail
                  refine (Has_is _ _ _ _ true (h_u.keep (below_trans (below_trans (below_trans (below_trans (below_trans (below_trans b6 b7) b8) b9) b10) b11) b12)) QU.out).mono ?_
                  rintro e w13 ⟨rfl, b13⟩
                  go_wp2_with fail
                  refine (Has_is _ _ _ _ false (h_m.keep (below_trans (below_trans (below_trans (below_trans (below_trans (below_trans b7 b8) b9) b10) b11) b12) b13)) QM.out).mono ?_
                  rintro e w14 ⟨rfl, b14⟩
                  go_wp2_with fail
                  refine (Has_is _ _ _ _ false (h_d.keep (below_trans (below_trans (below_trans (below_trans (below_trans (below_trans b8 b9) b10) b11) b12) b13) b14)) QD.out).mono ?_
                  rintro e w15 ⟨rfl, b15⟩
                  go_wp2_with fail
                  refine (Has_is _ _ _ _ false (h_n.keep (below_trans (below_trans (below_trans (below_trans (below_trans (below_trans b9 b10) b11) b12) b13) b14) b15)) (by rw [QN.out]; simp; omega)).mono ?_
                  rintro e w16 ⟨rfl, b16⟩
                  go_wp2
                  go_roundw
                  case rel => exact ⟨z + 1, by omega, by omega, rfl, (below_trans (below_trans (below_trans (below_trans (below_trans (below_trans (below_trans b9 b10) b11) b12) b13) b14) b15) b16)⟩
                  case measure => simp [intOf]; omega
                case pos =>
                  go_wp2_with fail
                  refine (Has_is _ _ _ _ false (h_o.keep (below_trans (below_trans (below_trans (below_trans (below_trans (below_trans b5 b6) b7) b8) b9) b10) b11)) QO.out).mono ?_
                  rintro e w12 ⟨rfl, b12⟩
                  go_wp2_with fail
                  refine (Has_is _ _ _ _ true (h_u.keep (below_trans (below_trans (below_trans (below_trans (below_trans (below_trans b6 b7) b8) b9) b10) b11) b12)) QU.out).mono ?_
                  rintro e w13 ⟨rfl, b13⟩
                  go_wp2_with fail
                  refine (Has_is _ _ _ _ false (h_m.keep (below_trans (below_trans (below_trans (below_trans (below_trans (below_trans b7 b8) b9) b10) b11) b12) b13)) QM.out).mono ?_
                  rintro e w14 ⟨rfl, b14⟩
                  go_wp2_with fail
                  refine (Has_is _ _ _ _ false (h_d.keep (below_trans (below_trans (below_trans (below_trans (below_trans (below_trans b8 b9) b10) b11) b12) b13) b14)) QD.out).mono ?_
                  rintro e w15 ⟨rfl, b15⟩
                  go_wp2_with fail
                  refine (Has_is _ _ _ _ true (h_n.keep (below_trans (below_trans (below_trans (below_trans (below_trans (below_trans b9 b10) b11) b12) b13) b14) b15)) (by rw [QN.out]; simp; omega)).mono ?_
                  rintro e w16 ⟨rfl, b16⟩
                  go_wp2
                  go_roundw
                  case rel => exact ⟨z + 1, by omega, by omega, rfl, (below_trans (below_trans (below_trans (below_trans (below_trans (below_trans (below_trans b9 b10) b11) b12) b13) b14) b15) b16)⟩
                  case measure => simp [intOf]; omega
          case true =>
            cases t
            case false =>
              obtain ⟨r1, r2⟩ := QR.out rfl
              go_wp2_with fail
              refine (Has_is _ _ _ _ true (h_o.keep (below_trans (below_trans (below_trans (below_trans (below_trans (below_trans b5 b6) b7) b8) b9) b10) b11)) QO.out).mono ?_
              rintro e w12 ⟨rfl, b12⟩
              go_wp2_with fail
              refine (Has_is _ _ _ _ true (h_u.keep (below_trans (below_trans (below_trans (below_trans (below_trans (below_trans b6 b7) b8) b9) b10) b11) b12)) QU.out).mono ?_
              rintro e w13 ⟨rfl, b13⟩
              go_wp2_with fail
              refine (Has_is _ _ _ _ false (h_m.keep (below_trans (below_trans (below_trans (below_trans (below_trans (below_trans b7 b8) b9) b10) b11) b12) b13)) QM.out).mono ?_
              rintro e w14 ⟨rfl, b14⟩
              go_wp2_with fail
              refine (Has_is _ _ _ _ true (h_d.keep (below_trans (below_trans (below_trans (below_trans (below_trans (below_trans b8 b9) b10) b11) b12) b13) b14)) QD.out).mono ?_
              rintro e w15 ⟨rfl, b15⟩
              go_wp2_with fail
              refine (Has_is _ _ _ _ false (h_n.keep (below_trans (below_trans (below_trans (below_trans (below_trans (below_trans b9 b10) b11) b12) b13) b14) b15)) (by rw [QN.out]; rfl)).mono ?_
              rintro e w16 ⟨rfl, b16⟩
              go_wp2
              go_roundw
              case rel => exact ⟨z + 1, by omega, by omega, rfl, (below_trans (below_trans (below_trans (below_trans (below_trans (below_trans (below_trans b9 b10) b11) b12) b13) b14) b15) b16)⟩
              case measure => simp [intOf]; omega
            case true =>
              obtain ⟨r1, r2⟩ := QR.out rfl
              go_wp2_with fail
              refine (Has_is _ _ _ _ true (h_o.keep (below_trans (below_trans (below_trans (below_trans (below_trans (below_trans b5 b6) b7) b8) b9) b10) b11)) QO.out).mono ?_
              rintro e w12 ⟨rfl, b12⟩
              go_wp2_with fail
              refine (Has_is _ _ _ _ true (h_u.keep (below_trans (below_trans (below_trans (below_trans (below_trans (below_trans b6 b7) b8) b9) b10) b11) b12)) QU.out).mono ?_
              rintro e w13 ⟨rfl, b13⟩
              go_wp2_with fail
              refine (Has_is _ _ _ _ true (h_m.keep (below_trans (below_trans (below_trans (below_trans (below_trans (below_trans b7 b8) b9) b10) b11) b12) b13)) QM.out).mono ?_
              rintro e w14 ⟨rfl, b14⟩
              go_wp2_with fail
              refine (Has_is _ _ _ _ false (h_d.keep (below_trans (below_trans (below_trans (below_trans (below_trans (below_trans b8 b9) b10) b11) b12) b13) b14)) QD.out).mono ?_
              rintro e w15 ⟨rfl, b15⟩
              go_wp2_with fail
              refine (Has_is _ _ _ _ false (h_n.keep (below_trans (below_trans (below_trans (below_trans (below_trans (below_trans b9 b10) b11) b12) b13) b14) b15)) (by rw [QN.out]; rfl)).mono ?_
              rintro e w16 ⟨rfl, b16⟩
              go_wp2
              go_roundw
              case rel => exact ⟨z + 1, by omega, by omega, rfl, (below_trans (below_trans (below_trans (below_trans (below_trans (below_trans (below_trans b9 b10) b11) b12) b13) b14) b15) b16)⟩
              case measure => simp [intOf]; omega
end Go.Proofs.YtcbopckgnbameaaDoor
