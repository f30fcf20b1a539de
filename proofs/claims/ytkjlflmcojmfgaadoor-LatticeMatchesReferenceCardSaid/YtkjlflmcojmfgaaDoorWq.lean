/- The walks of the reference's least, bound, marked. -/
import Derived.Test.YtkjlflmcojmfgaaDoorMat
namespace Go.Proofs.YtkjlflmcojmfgaaDoor
open Go.RowKit
def lpB (o : Rl2) (S : Nat → Bool) (a b : Nat) : Bool := S a && (List.range b).all fun j => !S j || o a j
theorem lpB_zero (o : Rl2) (S : Nat → Bool) (a : Nat) : lpB o S a 0 = S a := by simp [lpB]
theorem lpB_succ (o : Rl2) (S : Nat → Bool) (a b : Nat) : lpB o S a (b + 1) = (lpB o S a b && (!S b || o a b)) := by
  unfold lpB; rw [List.range_succ, List.all_append, ← Bool.and_assoc]; simp
theorem lpB_all (o : Rl2) (S : Nat → Bool) (a n : Nat) : lpB o S a n = lp n o S a := rfl
set_option maxHeartbeats 4000000 in
set_option maxRecDepth 100000 in
theorem least_ref (G c n : Nat) (o : Rl2) (g cg : Nat) (mk : Nat → Bool) (w : World) (hM : IsMat w G c n o) (hB : BRow w g n mk) (hn : n ≤ 1000) : Calls Tryd.prog 44 #[.slice (some ⟨G, 0, none⟩) n c, .slice (some ⟨g, 0, none⟩) n cg] w fun e w' => e = .returned (.int .i64 (leastOf n o mk)) ∧ w = w' := by
  go_enter Tryd.func44, Tryd.ntmps44
  go_wp2
  go_loop [5, 6, 7] (fun i _ _ => ∃ a : Nat, a ≤ n ∧ i = .int .i64 a ∧ Hid (∀ j, j < a → lp n o mk j = false)) (fun i _ _ => n - (intOf i).toNat)
  case atStart => exact ⟨0, Nat.zero_le _, rfl, Lib.hid fun _ h => by omega⟩
  case round =>
    obtain ⟨a, ha, rfl, HN⟩ := hrel
    by_cases hlt : a < n
    · have hd : decide (a < n) = true := decide_eq_true hlt
      obtain ⟨r, hcG, hR⟩ := hM.at_ hlt
      have hca := hB.cell hlt
      have haI : (a : Int) < (n : Int) := by omega
      have ha0 : (0 : Int) ≤ (a : Int) := by omega
      go_wp2
      go_loop [7, 6] (fun j ok => ∃ b : Nat, b ≤ n ∧ j = .int .i64 b ∧ ok = .bool (lpB o mk a b)) (fun j _ => n - (intOf j).toNat)
      case atStart => exact ⟨0, Nat.zero_le _, rfl, by rw [lpB_zero]⟩
      case round =>
        obtain ⟨b, hb, rfl, rfl⟩ := hrel
        by_cases hlb : b < n
        · have hd2 : decide (b < n) = true := decide_eq_true hlb
          have hcb := hB.cell hlb
          have hcr := hR.cell hlb
          have hbI : (b : Int) < (n : Int) := by omega
          have hb0 : (0 : Int) ≤ (b : Int) := by omega
          have HS := Lib.hid (lpB_succ o mk a b)
          cases hx : lpB o mk a b
          · have HX := Lib.hid hx
            clear hx
            go_wp2
            go_round
            case rel => exact ⟨b + 1, by omega, by go_num, by rw [HS.out, HX.out]; rfl⟩
            case measure => simp [intOf]; omega
          · have HX := Lib.hid hx
            clear hx
            cases hy : mk b
            · have HY := Lib.hid hy
              rw [hy] at hcb
              clear hy
              go_wp2
              go_round
              case rel => exact ⟨b + 1, by omega, by go_num, by rw [HS.out, HX.out, HY.out]; rfl⟩
              case measure => simp [intOf]; omega
            · have HY := Lib.hid hy
              rw [hy] at hcb
              clear hy
              obtain ⟨z, hz⟩ : ∃ z, o a b = z := ⟨_, rfl⟩
              have HZ := Lib.hid hz
              rw [hz] at hcr
              clear hz
              go_wp2
              go_round
              case rel => exact ⟨b + 1, by omega, by go_num, by rw [HS.out, HX.out, HY.out, HZ.out]; rfl⟩
              case measure => simp [intOf]; omega
        · have e : b = n := by omega
          subst e
          have hd2 : decide (b < b) = false := decide_eq_false hlb
          rw [lpB_all]
          cases hx : lp b o mk a
          · have HX := Lib.hid hx
            clear hx
            go_wp2
            go_round
            case rel =>
              exact ⟨a + 1, by omega, by go_num, Lib.hid fun j hj => by
                rcases Nat.lt_or_ge j a with h | h
                · exact HN.out j h
                · obtain rfl : j = a := by omega
                  exact HX.out⟩
            case measure => simp [intOf]; omega
          · have HL := Lib.hid (leastOf_hit (o := o) (S := mk) hlt hx HN.out)
            clear hx
            go_wp2
            go_ret
            exact ⟨ret_int HL.out.symm, rfl⟩
    · have e : a = n := by omega
      subst e
      have hd : decide (a < a) = false := decide_eq_false hlt
      have HL := Lib.hid (leastOf_miss (o := o) (S := mk) HN.out)
      go_wp2
      go_ret
      exact ⟨ret_int HL.out.symm, rfl⟩
def upF (n : Nat) (o : Rl2) (mk : Nat → Bool) (a : Nat) : Nat → Bool := fun c => if c < a then upB o mk n c else false
def upG (n : Nat) (o : Rl2) (mk : Nat → Bool) (a b : Nat) : Nat → Bool := fun c => if c = a then upB o mk b a else upF n o mk a c
theorem upG_end (n : Nat) (o : Rl2) (mk : Nat → Bool) (a c : Nat) : upG n o mk a n c = upF n o mk (a + 1) c := by
  unfold upG upF
  by_cases h : c = a
  · subst h; rw [if_pos rfl, if_pos (by omega)]
  · rw [if_neg h]
    by_cases h2 : c < a
    · rw [if_pos h2, if_pos (by omega)]
    · rw [if_neg h2, if_neg (by omega)]
theorem upG_set (n : Nat) (o : Rl2) (mk : Nat → Bool) (a b c : Nat) {x : Bool} (hx : upB o mk (b + 1) a = x) : (if c = a then x else upG n o mk a b c) = upG n o mk a (b + 1) c := by
  unfold upG
  by_cases h : c = a
  · rw [if_pos h, if_pos h, hx]
  · rw [if_neg h, if_neg h, if_neg h]
set_option maxHeartbeats 4000000 in
set_option maxRecDepth 100000 in
theorem bound_ref (G c n : Nat) (o : Rl2) (g cg : Nat) (mk : Nat → Bool) (w : World) (hM : IsMat w G c n o) (hB : BRow w g n mk) (hn : n ≤ 1000) : Calls Tryd.prog 33 #[.slice (some ⟨G, 0, none⟩) n c, .slice (some ⟨g, 0, none⟩) n cg] w fun e w' => e = .returned (.int .i64 (boundOf n o mk)) ∧ Below w.heap.size w w' := by
  have hmk := run_mkB n (by omega)
  have h1 := BRow.new w n fun _ => false
  have b1 := below_new w (.cells (boolsV n fun _ => false).toArray 4)
  go_enter Tryd.func33, Tryd.ntmps33
  go_wp2
  go_loopw [6, 7] (fun i _ wr => ∃ a : Nat, a ≤ n ∧ i = .int .i64 a ∧ BRow wr w.heap.size n (upF n o mk a) ∧ Below w.heap.size w wr) (fun i _ _ => n - (intOf i).toNat)
  case atStart => exact ⟨0, Nat.zero_le _, rfl, h1.congr fun b _ => by simp [upF], b1⟩
  case round =>
    clear h1 b1 hmk
    obtain ⟨a, ha, rfl, hU, bR⟩ := hrel
    obtain ⟨wo, rfl⟩ : ∃ wo : World, wo = wr := ⟨_, rfl⟩
    by_cases hlt : a < n
    · have hd : decide (a < n) = true := decide_eq_true hlt
      have haI : (a : Int) < (n : Int) := by omega
      have ha0 : (0 : Int) ≤ (a : Int) := by omega
      have hca := hU.cell hlt
      have hfa := hU.free (b := a)
      have h2 : BRow (wo.setCell ⟨w.heap.size, a, none⟩ (.bool true)) w.heap.size n (upG n o mk a 0) := (hU.set a true).congr fun j _ => by unfold upG; rfl
      have b2 := bR.setCell (p := ⟨w.heap.size, a, none⟩) (Nat.le_refl _) (.bool true)
      go_wp2
      clear hU bR hca hfa
      go_loopw [7] (fun j wr => ∃ b : Nat, b ≤ n ∧ j = .int .i64 b ∧ BRow wr w.heap.size n (upG n o mk a b) ∧ Below w.heap.size w wr) (fun j _ => n - (intOf j).toNat)
      case atStart => exact ⟨0, Nat.zero_le _, rfl, h2, b2⟩
      case round =>
        clear h2 b2
        obtain ⟨b, hb, rfl, hU, bR⟩ := hrel
        obtain ⟨wi, rfl⟩ : ∃ wi : World, wi = wr := ⟨_, rfl⟩
        by_cases hlb : b < n
        · have hd2 : decide (b < n) = true := decide_eq_true hlb
          have hbI : (b : Int) < (n : Int) := by omega
          have hb0 : (0 : Int) ≤ (b : Int) := by omega
          have hca := hU.cell hlt
          rw [show upG n o mk a b a = upB o mk b a from if_pos rfl] at hca
          have hfa := hU.free (b := a)
          have hcb := (hB.keep bR).cell hlb
          obtain ⟨r, hcG, hR⟩ := (hM.keep bR).at_ hlb
          have hcr := hR.cell hlt
          have HS := Lib.hid (upB_succ o mk b a)
          cases hx : upB o mk b a
          · have HX := Lib.hid hx
            rw [hx] at hca
            clear hx
            go_wp2
            go_roundw
            case rel => exact ⟨b + 1, by omega, by go_num, (hU.set a false).congr fun j _ => upG_set _ _ _ _ _ _ (by rw [HS.out, HX.out]; rfl), bR.setCell (p := ⟨w.heap.size, a, none⟩) (Nat.le_refl _) _⟩
            case measure => simp [intOf]; omega
          · have HX := Lib.hid hx
            rw [hx] at hca
            clear hx
            cases hy : mk b
            · have HY := Lib.hid hy
              rw [hy] at hcb
              clear hy
              go_wp2
              go_roundw
              case rel => exact ⟨b + 1, by omega, by go_num, (hU.set a true).congr fun j _ => upG_set _ _ _ _ _ _ (by rw [HS.out, HX.out, HY.out]; rfl), bR.setCell (p := ⟨w.heap.size, a, none⟩) (Nat.le_refl _) _⟩
              case measure => simp [intOf]; omega
            · have HY := Lib.hid hy
              rw [hy] at hcb
              clear hy
              obtain ⟨z, hz⟩ : ∃ z, o b a = z := ⟨_, rfl⟩
              have HZ := Lib.hid hz
              rw [hz] at hcr
              clear hz
              go_wp2
              go_roundw
              case rel => exact ⟨b + 1, by omega, by go_num, (hU.set a z).congr fun j _ => upG_set _ _ _ _ _ _ (by rw [HS.out, HX.out, HY.out, HZ.out]; rfl), bR.setCell (p := ⟨w.heap.size, a, none⟩) (Nat.le_refl _) _⟩
              case measure => simp [intOf]; omega
        · have e : b = n := by omega
          subst e
          have hd2 : decide (b < b) = false := decide_eq_false hlb
          go_wp2
          go_roundw
          case rel => exact ⟨a + 1, by omega, by go_num, hU.congr fun j _ => upG_end _ _ _ _ _, bR⟩
          case measure => simp [intOf]; omega
    · have e : a = n := by omega
      subst e
      have hd : decide (a < a) = false := decide_eq_false hlt
      have hU2 := hU.congr (p := fun c => upB o mk a c) fun j hj => if_pos hj
      go_wp2_with fail
      refine (least_ref G c a o w.heap.size a _ wo (hM.keep bR) hU2 hn).mono ?_
      rintro e w1 ⟨rfl, rfl⟩
      go_wp2
      go_ret
      exact ⟨rfl, bR⟩
def MarkRet (n : Nat) (l : List Nat) (w : World) (e : Ending) (w' : World) : Prop := ∃ g, e = .returned (.slice (some ⟨g, 0, none⟩) n n) ∧ BRow w' g n (fun b => decide (b ∈ l)) ∧ Below w.heap.size w w'
set_option maxHeartbeats 4000000 in
set_option maxRecDepth 100000 in
theorem marked_ref (n : Nat) (lv : Value) (l : List Nat) (w : World) (hl : IsInts w lv (castI l)) (hr : Hid (∀ a ∈ l, a < n)) (hn : n ≤ 1000) : Calls Tryd.prog 34 #[.int .i64 n, lv] w (MarkRet n l w) := by
  have hl0 := hl
  obtain ⟨la, lc, rfl, m1, m2, m3⟩ := IsRows.shape hl
  have hmk := run_mkB n (by omega)
  have h1 := BRow.new w n fun _ => false
  have b1 := below_new w (.cells (boolsV n fun _ => false).toArray 4)
  go_enter Tryd.func34, Tryd.ntmps34
  go_wp2
  go_loopw [6] (fun i wr => ∃ k : Nat, k ≤ l.length ∧ i = .int .i64 k ∧ BRow wr w.heap.size n (fun b => decide (b ∈ l.take k)) ∧ Below w.heap.size w wr) (fun i _ => l.length - (intOf i).toNat)
  case atStart => exact ⟨0, Nat.zero_le _, rfl, h1.congr fun b _ => by simp, b1⟩
  case round =>
    clear h1 b1 hmk
    obtain ⟨k, hk, rfl, hU, bR⟩ := hrel
    obtain ⟨wo, rfl⟩ : ∃ wo : World, wo = wr := ⟨_, rfl⟩
    have hll : (castI l).length ≤ l.length := by rw [castI_length]; exact Nat.le_refl _
    have hll2 : l.length ≤ (castI l).length := by rw [castI_length]; exact Nat.le_refl _
    by_cases hlt : k < l.length
    · have hd : decide (k < (castI l).length) = true := decide_eq_true (by omega)
      have hce : (castI l)[k]? = some ((l[k] : Nat) : Int) := by unfold castI; rw [List.getElem?_map, List.getElem?_eq_getElem hlt]; rfl
      obtain ⟨b1, of1, hle, hc⟩ := hl0.at_ hce
      subst hle
      replace hc := cell_keep bR hc
      have HT := Lib.hid (List.take_succ_eq_append_getElem hlt)
      have hxn := hr.out _ (List.getElem_mem hlt)
      clear hce
      generalize l[k] = x at *
      have hxI : (x : Int) < (n : Int) := by omega
      have hx0 : (0 : Int) ≤ (x : Int) := by omega
      have hkI : (k : Int) < ((castI l).length : Int) := by omega
      have hk0 : (0 : Int) ≤ (k : Int) := by omega
      have hcx := hU.cell hxn
      have hfx := hU.free (b := x)
      go_wp2
      go_roundw
      case rel => exact ⟨k + 1, by omega, by go_num, (hU.set x true).congr fun j _ => by rw [HT.out]; by_cases e : j = x <;> simp [e], bR.setCell (p := ⟨w.heap.size, x, none⟩) (Nat.le_refl _) _⟩
      case measure => simp [intOf]; omega
    · have e : k = l.length := by omega
      subst e
      have hd : decide (l.length < (castI l).length) = false := decide_eq_false (by omega)
      rw [List.take_length] at hU
      go_wp2
      go_ret
      exact ⟨_, rfl, hU, bR⟩
end Go.Proofs.YtkjlflmcojmfgaaDoor
