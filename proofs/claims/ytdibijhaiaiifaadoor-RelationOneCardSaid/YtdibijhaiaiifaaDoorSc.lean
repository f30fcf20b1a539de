/- The walk of the library's swapRange. -/
import Derived.Test.YtdibijhaiaiifaaDoorSb
namespace Go.Proofs.YtdibijhaiaiifaaDoor
open Go.RowKit
open Go.Sort
/-- The first k rounds of swapRange. -/
def swapN (a b : Nat) : Nat → Array RR → Array RR
  | 0, d => d
  | k + 1, d => swp (swapN a b k d) (a + k) (b + k)
theorem size_swapN (a b k : Nat) (d : Array RR) : (swapN a b k d).size = d.size := by
  induction k with
  | zero => rfl
  | succ k ih => rw [swapN, size_swp, ih]
set_option maxHeartbeats 4000000 in
set_option maxRecDepth 1000000 in
theorem swapRange_any (wb : World) (G c a b n : Nat) (d : Array RR) (w : World) (S : St wb G d w) (hne : a ≠ b) (ha : a + n ≤ d.size) (hb : b + n ≤ d.size) (hsz : d.size ≤ 1000000) :
    Calls Tryd.prog 157 #[.slice (some ⟨G, 0, none⟩) d.size c, .int .i64 a, .int .i64 b, .int .i64 n, .func (.func 73) #[] #[]] w fun e w' => e = .returned (.tuple #[]) ∧ St wb G (swapN a b n d) w' := by
  go_enter Tryd.func157, Tryd.ntmps157
  go_wp2
  go_loopg [10] n (fun g1 vi wr => ∃ k : Nat, vi = .int .i64 k ∧ k ≤ n ∧ n - k ≤ g1 ∧ St wb G (swapN a b k d) wr)
  case atStart => exact ⟨0, rfl, by omega, by omega, S⟩
  case round =>
    clear S
    obtain ⟨k, rfl, hk, hg, S⟩ := hrel
    by_cases hlt : k < n
    · have hz := size_swapN a b k d
      have hI : a + k < (swapN a b k d).size := by omega
      have hJ : b + k < (swapN a b k d).size := by omega
      have S3 := S.swap hI hJ
      obtain ⟨a0, a1⟩ := S.cells hI
      obtain ⟨b0, b1⟩ := S.cells hJ
      have f0 := S.free ((a + k) * 2)
      have f1 := S.free ((a + k) * 2 + 1)
      have f2 := S.free ((b + k) * 2)
      have f3 := S.free ((b + k) * 2 + 1)
      have NX : swapN a b (k + 1) d = swp (swapN a b k d) (a + k) (b + k) := rfl
      rw [← NX] at S3
      have n1 : ¬ (a + k) * 2 = (b + k) * 2 := by omega
      have n2 : ¬ (b + k) * 2 = (a + k) * 2 := by omega
      have n3 : ¬ (b + k) * 2 = (a + k) * 2 + 1 := by omega
      have n4 : ¬ (a + k) * 2 + 1 = (b + k) * 2 := by omega
      have n5 : ¬ (b + k) * 2 + 1 = (a + k) * 2 := by omega
      have n6 : ¬ (a + k) * 2 = (b + k) * 2 + 1 := by omega
      have n7 : ¬ a + k = b + k := by omega
      have n8 : ¬ b + k = a + k := by omega
      have n9 : ¬ a = b := hne
      have n10 : ¬ b = a := fun e => hne e.symm
      have i1 : (a : Int) + k < (d.size : Int) := by omega
      have j1 : (b : Int) + k < (d.size : Int) := by omega
      have i2 : 0 ≤ (a : Int) + k := by omega
      have j2 : 0 ≤ (b : Int) + k := by omega
      have i3 : ((a : Int) + k).toNat = a + k := by omega
      have j3 : ((b : Int) + k).toNat = b + k := by omega
      generalize (swapN a b k d)[a + k]! = x at *
      generalize (swapN a b k d)[b + k]! = y at *
      have hkn : (k : Int) < (n : Int) := by omega
      clear NX hz
      go_upto_region 3 with fail
      go_region
      replace S3 := S3.grew (Grew.refl _).drew
      clear a0 a1 b0 b1 f0 f1 f2 f3 S
      generalize World.drew _ = w3 at S3 ⊢
      go_wp2
      go_roundg (n - (k + 1))
      case measure => omega
      case rel => exact ⟨k + 1, by go_num, by omega, by omega, S3⟩
    · have hkn : ¬ (k : Int) < (n : Int) := by omega
      have e : k = n := by omega
      subst e
      go_wp2
      go_end0
      exact ⟨rfl, S⟩
end Go.Proofs.YtdibijhaiaiifaaDoor
