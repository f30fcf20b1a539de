/- The number of set bits of a 64-bit word: the plain arithmetic behind the bit count of Go's library, no program in sight. -/
import Derived.Lib.TrailingZeros
namespace Go.Proofs.YtdibijhaiaiifaaDoor
/-- How many of the first n bits of x are set. -/
def cntBits (n x : Nat) : Nat := (List.range n).countP fun k => x.testBit k
def rep (b : Nat) : Nat → Nat
  | 0 => 0
  | n + 1 => b + 256 * rep b n
theorem and256 (a b : Nat) : a &&& b = (a % 256 &&& b % 256) + 256 * (a / 256 &&& b / 256) := by
  have h1 : (a &&& b) % 2 ^ 8 = (a % 2 ^ 8) &&& (b % 2 ^ 8) := Nat.and_mod_two_pow
  have h2 : (a &&& b) / 2 ^ 8 = (a / 2 ^ 8) &&& (b / 2 ^ 8) := Nat.and_div_two_pow
  simp only [show (2 : Nat) ^ 8 = 256 from rfl] at h1 h2
  omega
theorem rep_mod (b n : Nat) (h : b < 256) : rep b (n + 1) % 256 = b := by simp only [rep]; omega
theorem rep_div (b n : Nat) (h : b < 256) : rep b (n + 1) / 256 = rep b n := by simp only [rep]; omega
def g1 (b : Nat) : Nat := (b / 2 &&& 85) + (b &&& 85)
def g2 (b : Nat) : Nat := (b / 4 &&& 51) + (b &&& 51)
def g3 (b : Nat) : Nat := (b / 16 + b) &&& 15
def s1 (n x : Nat) : Nat := (x / 2 &&& rep 85 n) + (x &&& rep 85 n)
def s2 (n x : Nat) : Nat := (x / 4 &&& rep 51 n) + (x &&& rep 51 n)
def s3 (n x : Nat) : Nat := (x / 16 + x) &&& rep 15 n
theorem f1 : ∀ b, b < 256 → ∀ c, c < 2 → (b / 2 + 128 * c) &&& 85 = b / 2 &&& 85 := by decide +kernel
theorem f2 : ∀ b, b < 256 → ∀ c, c < 4 → (b / 4 + 64 * c) &&& 51 = b / 4 &&& 51 := by decide +kernel
theorem f3 : ∀ b, b < 256 → (b % 16 ≤ 4 ∧ b / 16 ≤ 4) → ∀ c, c < 5 → (b / 16 + 16 * c + b) &&& 15 = (b / 16 + b) &&& 15 := by decide +kernel
theorem g1_lt : ∀ b, b < 256 → g1 b < 256 := by decide +kernel
theorem g2_lt : ∀ b, b < 256 → g2 (g1 b) < 256 ∧ g2 (g1 b) % 16 ≤ 4 ∧ g2 (g1 b) / 16 ≤ 4 := by decide +kernel
theorem g3_pop : ∀ b, b < 256 → g3 (g2 (g1 b)) = cntBits 8 b := by decide +kernel
theorem cnt8_le : ∀ b, b < 256 → cntBits 8 b ≤ 8 := by decide +kernel
theorem s1_succ (n x : Nat) : s1 (n + 1) x = g1 (x % 256) + 256 * s1 n (x / 256) := by
  unfold s1 g1
  rw [and256 (x / 2), and256 x, rep_mod _ _ (by omega), rep_div _ _ (by omega)]
  have e1 : x / 2 % 256 = x % 256 / 2 + 128 * (x / 256 % 2) := by omega
  have e2 : x / 2 / 256 = x / 256 / 2 := by omega
  rw [e1, e2, f1 _ (by omega) _ (by omega)]
  omega
theorem s2_succ (n x : Nat) : s2 (n + 1) x = g2 (x % 256) + 256 * s2 n (x / 256) := by
  unfold s2 g2
  rw [and256 (x / 4), and256 x, rep_mod _ _ (by omega), rep_div _ _ (by omega)]
  have e1 : x / 4 % 256 = x % 256 / 4 + 64 * (x / 256 % 4) := by omega
  have e2 : x / 4 / 256 = x / 256 / 4 := by omega
  rw [e1, e2, f2 _ (by omega) _ (by omega)]
  omega
theorem s3_succ (n x : Nat) (h1 : x % 16 ≤ 4) (h2 : x % 256 / 16 ≤ 4) (h3 : x / 256 % 16 ≤ 4) : s3 (n + 1) x = g3 (x % 256) + 256 * s3 n (x / 256) := by
  unfold s3 g3
  rw [and256 (x / 16 + x), rep_mod _ _ (by omega), rep_div _ _ (by omega)]
  have e1 : (x / 16 + x) % 256 = x % 256 / 16 + 16 * (x / 256 % 16) + x % 256 := by omega
  have e2 : (x / 16 + x) / 256 = x / 256 / 16 + x / 256 := by omega
  rw [e1, e2, f3 _ (by omega) ⟨by omega, by omega⟩ _ (by omega)]
theorem s12_low (n x : Nat) : s2 n (s1 n x) % 16 ≤ 4 := by
  cases n with
  | zero => simp [s2, s1, rep]
  | succ n =>
    rw [s1_succ, s2_succ]
    have a := g1_lt (x % 256) (by omega)
    have b := g2_lt (x % 256) (by omega)
    have e : (g1 (x % 256) + 256 * s1 n (x / 256)) % 256 = g1 (x % 256) := by omega
    rw [e]; omega
theorem s123_succ (n x : Nat) : s3 (n + 1) (s2 (n + 1) (s1 (n + 1) x)) = cntBits 8 (x % 256) + 256 * s3 n (s2 n (s1 n (x / 256))) := by
  have a := g1_lt (x % 256) (by omega)
  have b := g2_lt (x % 256) (by omega)
  have e1 : s2 (n + 1) (s1 (n + 1) x) = g2 (g1 (x % 256)) + 256 * s2 n (s1 n (x / 256)) := by
    rw [s1_succ, s2_succ]
    have e : (g1 (x % 256) + 256 * s1 n (x / 256)) % 256 = g1 (x % 256) := by omega
    have e' : (g1 (x % 256) + 256 * s1 n (x / 256)) / 256 = s1 n (x / 256) := by omega
    rw [e, e']
  have l := s12_low n (x / 256)
  have m : s2 (n + 1) (s1 (n + 1) x) % 256 = g2 (g1 (x % 256)) := by omega
  have d : s2 (n + 1) (s1 (n + 1) x) / 256 = s2 n (s1 n (x / 256)) := by omega
  rw [s3_succ n _ (by omega) (by omega) (by omega), m, d, g3_pop _ (by omega)]
theorem cnt_succ (n x : Nat) : cntBits (8 + n) x = cntBits 8 (x % 256) + cntBits n (x / 256) := by
  unfold cntBits
  rw [List.range_add, List.countP_append, List.countP_map]
  congr 1
  · refine List.countP_congr fun k hk => ?_
    have hk : k < 8 := by simpa using hk
    have : (x % 2 ^ 8).testBit k = (decide (k < 8) && x.testBit k) := Nat.testBit_mod_two_pow ..
    simp only [show (2 : Nat) ^ 8 = 256 from rfl] at this
    rw [this]; simp [hk]
  · refine List.countP_congr fun k _ => ?_
    have : (x / 2 ^ 8).testBit k = x.testBit (8 + k) := by rw [Nat.testBit_div_two_pow, Nat.add_comm]
    simp only [show (2 : Nat) ^ 8 = 256 from rfl] at this
    simp only [Function.comp, this]
theorem cnt0 (x : Nat) : cntBits 0 x = 0 := rfl
/-- The library's count, as its text computes it. -/
def fold64 (y : Nat) : Nat :=
  let y := (y + y / 256) % 18446744073709551616
  let y := (y + y / 65536) % 18446744073709551616
  let y := (y + y / 4294967296) % 18446744073709551616
  y % 128
def onesOf (x : Nat) : Nat := fold64 (s3 8 (s2 8 (s1 8 x)))
set_option maxRecDepth 10000 in
theorem bytes8 (x : Nat) : ∃ p0 p1 p2 p3 p4 p5 p6 p7 : Nat, p0 ≤ 8 ∧ p1 ≤ 8 ∧ p2 ≤ 8 ∧ p3 ≤ 8 ∧ p4 ≤ 8 ∧ p5 ≤ 8 ∧ p6 ≤ 8 ∧ p7 ≤ 8 ∧
    s3 8 (s2 8 (s1 8 x)) = p0 + 256 * (p1 + 256 * (p2 + 256 * (p3 + 256 * (p4 + 256 * (p5 + 256 * (p6 + 256 * p7)))))) ∧
    cntBits 64 x = p0 + (p1 + (p2 + (p3 + (p4 + (p5 + (p6 + p7)))))) := by
  have z : ∀ y, s3 0 (s2 0 (s1 0 y)) = 0 := fun y => by simp [s3, rep]
  refine ⟨_, _, _, _, _, _, _, _, cnt8_le (x % 256) (by omega), cnt8_le (x / 256 % 256) (by omega), cnt8_le (x / 256 / 256 % 256) (by omega), cnt8_le (x / 256 / 256 / 256 % 256) (by omega),
    cnt8_le (x / 256 / 256 / 256 / 256 % 256) (by omega), cnt8_le (x / 256 / 256 / 256 / 256 / 256 % 256) (by omega), cnt8_le (x / 256 / 256 / 256 / 256 / 256 / 256 % 256) (by omega), cnt8_le (x / 256 / 256 / 256 / 256 / 256 / 256 / 256 % 256) (by omega), ?_, ?_⟩
  · rw [s123_succ, s123_succ, s123_succ, s123_succ, s123_succ, s123_succ, s123_succ, s123_succ, z, Nat.mul_zero, Nat.add_zero]
  · rw [show (64 : Nat) = 8 + 56 from rfl, cnt_succ, show (56 : Nat) = 8 + 48 from rfl, cnt_succ, show (48 : Nat) = 8 + 40 from rfl, cnt_succ, show (40 : Nat) = 8 + 32 from rfl, cnt_succ,
      show (32 : Nat) = 8 + 24 from rfl, cnt_succ, show (24 : Nat) = 8 + 16 from rfl, cnt_succ, show (16 : Nat) = 8 + 8 from rfl, cnt_succ]
    have h8 := cnt_succ 0 (x / 256 / 256 / 256 / 256 / 256 / 256 / 256)
    simp only [cnt0, Nat.add_zero] at h8
    rw [← h8]
theorem div1 (a t : Nat) (h : a < 256) : (a + 256 * t) / 256 = t := by omega
theorem div2 (a b t : Nat) (h : a < 256) (h' : b < 256) : (a + 256 * (b + 256 * t)) / 65536 = t := by omega
theorem div4 (a b c d t : Nat) (h : a < 256) (h' : b < 256) (h2 : c < 256) (h3 : d < 256) : (a + 256 * (b + 256 * (c + 256 * (d + 256 * t)))) / 4294967296 = t := by omega
theorem stp (y q r m : Nat) (hq : y / m = q) (hr : y + q = r) (hb : r < 18446744073709551616) : (y + y / m) % 18446744073709551616 = r := by
  rw [hq, hr, Nat.mod_eq_of_lt hb]
theorem fold_bytes (p0 p1 p2 p3 p4 p5 p6 p7 : Nat) (h0 : p0 ≤ 8) (h1 : p1 ≤ 8) (h2 : p2 ≤ 8) (h3 : p3 ≤ 8) (h4 : p4 ≤ 8) (h5 : p5 ≤ 8) (h6 : p6 ≤ 8) (h7 : p7 ≤ 8) :
    fold64 (p0 + 256 * (p1 + 256 * (p2 + 256 * (p3 + 256 * (p4 + 256 * (p5 + 256 * (p6 + 256 * (p7)))))))) = p0 + (p1 + (p2 + (p3 + (p4 + (p5 + (p6 + p7)))))) := by
  unfold fold64
  dsimp only
  rw [stp (p0 + 256 * (p1 + 256 * (p2 + 256 * (p3 + 256 * (p4 + 256 * (p5 + 256 * (p6 + 256 * (p7)))))))) (p1 + 256 * (p2 + 256 * (p3 + 256 * (p4 + 256 * (p5 + 256 * (p6 + 256 * (p7))))))) ((p0 + p1) + 256 * ((p1 + p2) + 256 * ((p2 + p3) + 256 * ((p3 + p4) + 256 * ((p4 + p5) + 256 * ((p5 + p6) + 256 * ((p6 + p7) + 256 * (p7)))))))) 256 (div1 p0 _ (by omega)) (by omega) (by omega)]
  rw [stp ((p0 + p1) + 256 * ((p1 + p2) + 256 * ((p2 + p3) + 256 * ((p3 + p4) + 256 * ((p4 + p5) + 256 * ((p5 + p6) + 256 * ((p6 + p7) + 256 * (p7)))))))) ((p2 + p3) + 256 * ((p3 + p4) + 256 * ((p4 + p5) + 256 * ((p5 + p6) + 256 * ((p6 + p7) + 256 * (p7)))))) ((p0 + p1 + p2 + p3) + 256 * ((p1 + p2 + p3 + p4) + 256 * ((p2 + p3 + p4 + p5) + 256 * ((p3 + p4 + p5 + p6) + 256 * ((p4 + p5 + p6 + p7) + 256 * ((p5 + p6 + p7) + 256 * ((p6 + p7) + 256 * (p7)))))))) 65536 (div2 (p0 + p1) (p1 + p2) _ (by omega) (by omega)) (by omega) (by omega)]
  rw [stp ((p0 + p1 + p2 + p3) + 256 * ((p1 + p2 + p3 + p4) + 256 * ((p2 + p3 + p4 + p5) + 256 * ((p3 + p4 + p5 + p6) + 256 * ((p4 + p5 + p6 + p7) + 256 * ((p5 + p6 + p7) + 256 * ((p6 + p7) + 256 * (p7)))))))) ((p4 + p5 + p6 + p7) + 256 * ((p5 + p6 + p7) + 256 * ((p6 + p7) + 256 * (p7)))) ((p0 + (p1 + (p2 + (p3 + (p4 + (p5 + (p6 + p7))))))) + 128 * (2 * ((p1 + p2 + p3 + p4 + p5 + p6 + p7) + 256 * ((p2 + p3 + p4 + p5 + p6 + p7) + 256 * ((p3 + p4 + p5 + p6 + p7) + 256 * ((p4 + p5 + p6 + p7) + 256 * ((p5 + p6 + p7) + 256 * ((p6 + p7) + 256 * (p7))))))))) 4294967296 (div4 (p0 + p1 + p2 + p3) (p1 + p2 + p3 + p4) (p2 + p3 + p4 + p5) (p3 + p4 + p5 + p6) _ (by omega) (by omega) (by omega) (by omega)) (by omega) (by omega)]
  rw [Nat.add_mul_mod_self_left, Nat.mod_eq_of_lt (by omega)]
theorem ones_eq (x : Nat) : onesOf x = cntBits 64 x := by
  obtain ⟨p0, p1, p2, p3, p4, p5, p6, p7, h0, h1, h2, h3, h4, h5, h6, h7, e, c⟩ := bytes8 x
  unfold onesOf
  rw [e, c]
  exact fold_bytes _ _ _ _ _ _ _ _ h0 h1 h2 h3 h4 h5 h6 h7
theorem rep85 : rep 85 8 = 6148914691236517205 := rfl
theorem rep51 : rep 51 8 = 3689348814741910323 := rfl
theorem rep15 : rep 15 8 = 1085102592571150095 := rfl
end Go.Proofs.YtdibijhaiaiifaaDoor
