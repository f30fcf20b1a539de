/- The walks of the leaves: few, below, the library's bit counts, of. -/
import Derived.Test.YtdibijhaiaiifaaDoorMem
import Derived.Laws.Bits64b
import Derived.Laws.BitsAllLaws
import Derived.Deep.QuietTactic
import Derived.BigQuiet
namespace Go.Proofs.YtdibijhaiaiifaaDoor
open Go.RowKit
theorem below_any (n : Int) (w : World) :
    Calls Tryd.prog 131 #[.int .i64 n] w fun e w' => e = .returned (.int .u64 (belowN n : Nat)) ∧ w = w' := by
  by_cases h0 : n ≤ 0
  · have H := Lib.hid (show belowN n = 0 from by simp [belowN, h0])
    go_enter Tryd.func131, Tryd.ntmps131
    go_wp2
    go_ret
    exact ⟨by rw [H.out]; rfl, rfl⟩
  · by_cases h1 : 64 ≤ n
    · have H := Lib.hid (show belowN n = top64 from by simp [belowN, h0, h1])
      go_enter Tryd.func131, Tryd.ntmps131
      go_wp2
      go_ret
      exact ⟨by rw [H.out]; rfl, rfl⟩
    · have h2 : 0 < n := by omega
      have H := Lib.hid (show IntKind.u64.wrap (IntKind.u64.wrap (2 ^ n.toNat) - 1) = (belowN n : Nat) from by
        have p : 2 ^ n.toNat ≤ 2 ^ 63 := Nat.pow_le_pow_right (by omega) (by omega)
        have q : (2 : Nat) ^ 63 = 9223372036854775808 := rfl
        have r : 0 < 2 ^ n.toNat := Nat.two_pow_pos _
        have e : ((2 : Int) ^ n.toNat) = ((2 ^ n.toNat : Nat) : Int) := by rw [Int.natCast_pow]; rfl
        simp only [belowN, h0, h1, if_false, IntKind.wrap_u64]
        rw [e]
        generalize 2 ^ n.toNat = y at *
        omega)
      go_enter Tryd.func131, Tryd.ntmps131
      go_wp2
      go_ret
      exact ⟨ret_int H.out, rfl⟩
theorem wrapN (y : Nat) : IntKind.u64.wrap (y : Int) = ((y % 18446744073709551616 : Nat) : Int) := by rw [IntKind.wrap_u64]; omega
theorem ones1 (x : Nat) (hx : x < 18446744073709551616) : IntKind.u64.wrap (bits .and .u64 ((x : Int) / 2) 6148914691236517205 + bits .and .u64 (x : Int) 6148914691236517205) = ((s1 8 x : Nat) : Int) ∧ s1 8 x < 18446744073709551616 := by
  have a : x / 2 &&& 6148914691236517205 ≤ 6148914691236517205 := Nat.and_le_right
  have b : x &&& 6148914691236517205 ≤ 6148914691236517205 := Nat.and_le_right
  have e := bits_and_u64_nat (x / 2) 6148914691236517205 (by omega) (by omega)
  have f := bits_and_u64_nat x 6148914691236517205 hx (by omega)
  rw [show ((x : Int) / 2) = ((x / 2 : Nat) : Int) from by omega]
  rw [show (6148914691236517205 : Int) = ((6148914691236517205 : Nat) : Int) from rfl, e, f, ← Int.natCast_add, wrapN]
  unfold s1; rw [rep85]
  exact ⟨by rw [Nat.mod_eq_of_lt (by omega)], by omega⟩
theorem ones2 (x : Nat) (hx : x < 18446744073709551616) : IntKind.u64.wrap (bits .and .u64 ((x : Int) / 4) 3689348814741910323 + bits .and .u64 (x : Int) 3689348814741910323) = ((s2 8 x : Nat) : Int) ∧ s2 8 x < 18446744073709551616 := by
  have a : x / 4 &&& 3689348814741910323 ≤ 3689348814741910323 := Nat.and_le_right
  have b : x &&& 3689348814741910323 ≤ 3689348814741910323 := Nat.and_le_right
  have e := bits_and_u64_nat (x / 4) 3689348814741910323 (by omega) (by omega)
  have f := bits_and_u64_nat x 3689348814741910323 hx (by omega)
  rw [show ((x : Int) / 4) = ((x / 4 : Nat) : Int) from by omega]
  rw [show (3689348814741910323 : Int) = ((3689348814741910323 : Nat) : Int) from rfl, e, f, ← Int.natCast_add, wrapN]
  unfold s2; rw [rep51]
  exact ⟨by rw [Nat.mod_eq_of_lt (by omega)], by omega⟩
theorem ones3 (x : Nat) : bits .and .u64 (IntKind.u64.wrap ((x : Int) / 16 + (x : Int))) 1085102592571150095 = ((s3 8 x : Nat) : Int) ∧ s3 8 x < 18446744073709551616 := by
  rw [show ((x : Int) / 16) = ((x / 16 : Nat) : Int) from by omega, ← Int.natCast_add, wrapN]
  have f := bits_and_u64_nat ((x / 16 + x) % 18446744073709551616) 1085102592571150095 (by omega) (by omega)
  rw [show (1085102592571150095 : Int) = ((1085102592571150095 : Nat) : Int) from rfl, f]
  have a : (x / 16 + x) &&& 1085102592571150095 ≤ 1085102592571150095 := Nat.and_le_right
  have h1 : ((x / 16 + x) &&& 1085102592571150095) % 2 ^ 64 = ((x / 16 + x) % 2 ^ 64) &&& (1085102592571150095 % 2 ^ 64) := Nat.and_mod_two_pow
  rw [show (2 : Nat) ^ 64 = 18446744073709551616 from rfl, Nat.mod_eq_of_lt (by omega)] at h1
  unfold s3; rw [rep15]
  exact ⟨by rw [h1], by omega⟩
theorem fold1 (y m : Nat) : IntKind.u64.wrap ((y : Int) + (y : Int) / (m : Int)) = (((y + y / m) % 18446744073709551616 : Nat) : Int) := by
  rw [← Int.natCast_ediv, ← Int.natCast_add, wrapN]
theorem ofInt64 (z : Int) : (BitVec.ofInt 64 z).toNat = (z % 18446744073709551616).toNat := by
  rw [BitVec.toNat_ofInt]; rfl
theorem last1 (y : Nat) (h : y < 18446744073709551616) : bits .and .i64 (wrap64 (y : Int)) 127 = ((y % 128 : Nat) : Int) := by
  have e : (BitVec.ofInt 64 (wrap64 (y : Int))).toNat = y := by
    rw [ofInt64]
    unfold wrap64
    omega
  show IntKind.i64.wrap ((BitVec.ofInt 64 (wrap64 (y : Int)) &&& BitVec.ofInt 64 127).toNat : Int) = _
  rw [BitVec.toNat_and, e, show (BitVec.ofInt 64 127).toNat = 127 from rfl, Nat.and_two_pow_sub_one_eq_mod y 7, IntKind.wrap_i64]
  omega
theorem tz_key (x a : Nat) (hx : x < 18446744073709551616) (hx0 : x ≠ 0) (hlow : x &&& (18446744073709551616 - x) = a) :
    IntKind.u64.wrap (bits BinOp.and IntKind.u64 (x : Int) (IntKind.u64.wrap (-(x : Int))) * 285870213051353865) / 288230376151711744 = ((a * 285870213051353865 % 18446744073709551616 / 288230376151711744 : Nat) : Int) := by
  have e1 : IntKind.u64.wrap (-(x : Int)) = ((18446744073709551616 - x : Nat) : Int) := by rw [IntKind.wrap_u64]; omega
  rw [e1, bits_and_u64_nat x _ hx (by omega), hlow, IntKind.wrap_u64]
  omega
set_option maxHeartbeats 1000000 in
theorem tz_core (x k idx : Nat) (w : World) (hx0 : ((x : Int) == 0) = false)
    (key : IntKind.u64.wrap (bits BinOp.and IntKind.u64 (x : Int) (IntKind.u64.wrap (-(x : Int))) * 285870213051353865) / 288230376151711744 = (idx : Int))
    (hi : idx < 64) (hk : k < 64) (hcell : w.cell? ⟨1, idx, none⟩ = some (.int .u8 k)) :
    Calls Tryd.prog 145 #[.int .u64 x] w fun e w' => e = .returned (.int .i64 k) ∧ w = w' := by
  go_enter Tryd.func145, Tryd.ntmps145
  go_wp2_with (simp only [key])
  go_ret
  exact ⟨rfl, rfl⟩
theorem tz_zero (w : World) : Calls Tryd.prog 145 #[.int .u64 0] w fun e w' => e = .returned (.int .i64 64) ∧ w = w' := by
  go_enter Tryd.func145, Tryd.ntmps145
  go_wp2
  go_ret
  exact ⟨rfl, rfl⟩
theorem tz_any (x : Nat) (hx : x < 18446744073709551616) (w : World) (hT : Tab w) :
    Calls Tryd.prog 145 #[.int .u64 x] w fun e w' => e = .returned (.int .i64 (Lib.ctz 64 x)) ∧ w = w' := by
  by_cases hx0 : x = 0
  · subst hx0
    exact tz_zero w
  · obtain ⟨hlow, hk⟩ := Lib.lowest_bit 64 x hx0 hx
    obtain ⟨hi, htab⟩ := Lib.deBruijn64_at _ hk
    have hcell := hT.1 _ hi
    rw [htab] at hcell
    exact tz_core x _ _ w (by simp; omega) (tz_key x _ hx hx0 hlow) hi hk hcell
theorem quiet_left {P : Program} {f : FuncId} {args : Array Value} {w : World} {n : Nat} {v : Value}
    (h : Calls P f args (w.drewN n) fun e w' => e = .returned v ∧ w.drewN n = w') : Calls P f args (w.drewN n) fun e w'' => e = .returned v ∧ ∃ m, w'' = w.drewN m :=
  h.mono fun _ _ ⟨he, hm⟩ => ⟨he, n, hm.symm⟩
theorem below_drewN {B : Nat} {a w : World} (h : Below B a w) (n : Nat) : Below B a (w.drewN n) := ⟨h.os, h.tape, h.output, h.size, h.block⟩
theorem or_step (x : Nat) (hx : x < 18446744073709551616) (p q : Int) : bits .or .u64 (x : Int) (bits .andNot .u64 (belowN q : Nat) (belowN p : Nat)) = ((x ||| spanW (p, q) : Nat) : Int) := by
  rw [u64_andNot_nat _ _ (belowN_lt q) (belowN_lt p), u64_or_nat _ _ hx (and_lt (by omega))]
  rfl
set_option maxHeartbeats 1000000 in
theorem of_any (v : Value) (l : List Sp) (w : World) (h : IsSpans w v l) :
    Calls Tryd.prog 95 #[v] w fun e w' => e = .returned (.int .u64 (ofW l)) ∧ Below w.heap.size w w' := by
  obtain ⟨a, c, rfl, hs, hm⟩ := h
  go_enter Tryd.func95, Tryd.ntmps95
  go_wp2
  go_loopw [3, 8] (fun t i wr => ∃ k : Nat, k ≤ l.length ∧ i = .int .i64 k ∧ t = .int .u64 (ofW (l.take k)) ∧ Below w.heap.size w wr) (fun _ i _ => l.length - (intOf i).toNat)
  case atStart => exact ⟨0, Nat.zero_le _, rfl, rfl, Below.refl _ _⟩
  case round =>
    obtain ⟨k, hk, rfl, rfl, hb⟩ := hrel
    by_cases hlt : k < l.length
    · obtain ⟨b, off, rfl, hcs⟩ := (hs.keep hb).at_ hlt
      obtain ⟨c1, c2⟩ := hcs k hlt
      have HS := Lib.hid (ofW_take l k hlt)
      clear hcs
      generalize l.getD k (0, 0) = s at *
      obtain ⟨p, q⟩ := s
      go_wp2
      go_quiet ((go_at_call 131; exact quiet_left (below_any _ _)))
      go_wp2
      go_roundw
      case rel => exact ⟨k + 1, by omega, by go_num, by rw [or_step _ (ofW_lt _), HS.out], below_drewN (hb.alloc hb.size _) _⟩
      case measure => simp [intOf]; omega
    · have e : k = l.length := by omega
      subst e
      go_wp2
      go_ret
      exact ⟨by simp, hb⟩
end Go.Proofs.YtdibijhaiaiifaaDoor
