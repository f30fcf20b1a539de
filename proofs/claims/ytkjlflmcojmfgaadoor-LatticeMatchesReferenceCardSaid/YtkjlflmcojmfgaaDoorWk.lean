/- The walks of TrailingZeros8, Monotone. -/
import Derived.Test.YtkjlflmcojmfgaaDoorWj
namespace Go.Proofs.YtkjlflmcojmfgaaDoor
open Go.RowKit
theorem byte_getD (T : ByteArray) {n : Nat} (h : n < T.size) : T[n] = T.data.toList.getD n 0 := by
  rw [List.getD_eq_getElem?_getD, List.getElem?_eq_getElem (by simpa using h)]; rfl
set_option maxHeartbeats 2000000 in
set_option maxRecDepth 100000 in
theorem tz_any (s : Int) (S : Nat → Bool) (a : Nat) (w : World) (hs : Bits s S) (ha : a < 8) (hl : low S a) : Calls Tryd.prog 39 #[.int .u8 s] w fun e w' => e = .returned (.int .i64 a) ∧ w = w' := by
  have h0 := hs.1
  have h1 := hs.2.1
  obtain ⟨n, rfl⟩ := Int.eq_ofNat_of_zero_le h0
  go_enter Tryd.func39, Tryd.ntmps39
  have hn : n < 256 := by omega
  have hb : n.testBit a = true := by have := hs.at_ ha; rw [Int.toNat_natCast] at this; rw [this]; exact hl.1
  have hlow : ∀ b, b < a → n.testBit b = false := fun b hba => by have := hs.at_ (b := b) (by omega); rw [Int.toNat_natCast] at this; rw [this]; exact hl.2 b hba
  have HN := Lib.hid hn
  have HB := Lib.hid hb
  have HLW := Lib.hid hlow
  have HGE := Lib.hid (fun (T : ByteArray) (h : n < T.size) => (byte_getD T h))
  clear hb hlow hl hs
  go_wp2
  go_ret
  refine ⟨ret_int ?_, rfl⟩
  rw [HGE.out]
  have hn := HN.out
  have hb := HB.out
  have hlow := HLW.out
  clear HGE HN HB HLW h0 h1 w S
  revert hlow hb
  revert ha
  revert a
  revert hn
  revert n
  decide +kernel
end Go.Proofs.YtkjlflmcojmfgaaDoor
