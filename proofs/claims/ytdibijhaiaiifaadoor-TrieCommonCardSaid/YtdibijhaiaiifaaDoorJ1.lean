/- Parts Pop, Math, Words, Mem: words, walks and laws that the claims of this seat share. -/
import Derived.Lib.TrailingZeros
import Derived.Test.YtdibijhaiaiifaaDoorProg
import Derived.WalkKit
import Derived.WalkSpells
import Derived.WalkLawsBesides
import Derived.Lib.Hide
/- The number of set bits of a 64-bit word: the plain arithmetic behind the bit count of Go's library, no program in sight. -/
namespace Go.Proofs.YtdibijhaiaiifaaDoor
/-- How many of the first n bits of x are set. -/
def cntBits (n x : Nat) : Nat := (List.range n).countP fun k => x.testBit k
def rep (b : Nat) : Nat → Nat
  | 0 => 0
  | n + 1 => b + 256 * rep b n
theorem and256 (a b : Nat) : a &&& b = (a % 256 &&& b % 256) + 256 * (a / 256 &&& b / 256) := by
  have h1 : (a &&& b) % 2 ^ 8 = (a % 2 ^ 8) &&& (b % 2 ^ 8) := Nat.and_mod_two_pow
  have h2 : (a &&& b) / 2 ^ 8 = (a / 2 ^ 8) &&& (b / 2 ^ 8) := Nat.and_div_two_pow
  simp only [show (2 : Nat) ^ 8 = 256 from rfl] at h1 h2
  omega
theorem rep_mod (b n : Nat) (h : b < 256) : rep b (n + 1) % 256 = b := by simp only [rep]; omega
theorem rep_div (b n : Nat) (h : b < 256) : rep b (n + 1) / 256 = rep b n := by simp only [rep]; omega
def g1 (b : Nat) : Nat := (b / 2 &&& 85) + (b &&& 85)
def g2 (b : Nat) : Nat := (b / 4 &&& 51) + (b &&& 51)
def g3 (b : Nat) : Nat := (b / 16 + b) &&& 15
def s1 (n x : Nat) : Nat := (x / 2 &&& rep 85 n) + (x &&& rep 85 n)
def s2 (n x : Nat) : Nat := (x / 4 &&& rep 51 n) + (x &&& rep 51 n)
def s3 (n x : Nat) : Nat := (x / 16 + x) &&& rep 15 n
theorem f1 : ∀ b, b < 256 → ∀ c, c < 2 → (b / 2 + 128 * c) &&& 85 = b / 2 &&& 85 := by decide +kernel
theorem f2 : ∀ b, b < 256 → ∀ c, c < 4 → (b / 4 + 64 * c) &&& 51 = b / 4 &&& 51 := by decide +kernel
theorem f3 : ∀ b, b < 256 → (b % 16 ≤ 4 ∧ b / 16 ≤ 4) → ∀ c, c < 5 → (b / 16 + 16 * c + b) &&& 15 = (b / 16 + b) &&& 15 := by decide +kernel
theorem g1_lt : ∀ b, b < 256 → g1 b < 256 := by decide +kernel
theorem g2_lt : ∀ b, b < 256 → g2 (g1 b) < 256 ∧ g2 (g1 b) % 16 ≤ 4 ∧ g2 (g1 b) / 16 ≤ 4 := by decide +kernel
theorem g3_pop : ∀ b, b < 256 → g3 (g2 (g1 b)) = cntBits 8 b := by decide +kernel
theorem cnt8_le : ∀ b, b < 256 → cntBits 8 b ≤ 8 := by decide +kernel
theorem s1_succ (n x : Nat) : s1 (n + 1) x = g1 (x % 256) + 256 * s1 n (x / 256) := by
  unfold s1 g1
  rw [and256 (x / 2), and256 x, rep_mod _ _ (by omega), rep_div _ _ (by omega)]
  have e1 : x / 2 % 256 = x % 256 / 2 + 128 * (x / 256 % 2) := by omega
  have e2 : x / 2 / 256 = x / 256 / 2 := by omega
  rw [e1, e2, f1 _ (by omega) _ (by omega)]
  omega
theorem s2_succ (n x : Nat) : s2 (n + 1) x = g2 (x % 256) + 256 * s2 n (x / 256) := by
  unfold s2 g2
  rw [and256 (x / 4), and256 x, rep_mod _ _ (by omega), rep_div _ _ (by omega)]
  have e1 : x / 4 % 256 = x % 256 / 4 + 64 * (x / 256 % 4) := by omega
  have e2 : x / 4 / 256 = x / 256 / 4 := by omega
  rw [e1, e2, f2 _ (by omega) _ (by omega)]
  omega
theorem s3_succ (n x : Nat) (h1 : x % 16 ≤ 4) (h2 : x % 256 / 16 ≤ 4) (h3 : x / 256 % 16 ≤ 4) : s3 (n + 1) x = g3 (x % 256) + 256 * s3 n (x / 256) := by
  unfold s3 g3
  rw [and256 (x / 16 + x), rep_mod _ _ (by omega), rep_div _ _ (by omega)]
  have e1 : (x / 16 + x) % 256 = x % 256 / 16 + 16 * (x / 256 % 16) + x % 256 := by omega
  have e2 : (x / 16 + x) / 256 = x / 256 / 16 + x / 256 := by omega
  rw [e1, e2, f3 _ (by omega) ⟨by omega, by omega⟩ _ (by omega)]
theorem s12_low (n x : Nat) : s2 n (s1 n x) % 16 ≤ 4 := by
  cases n with
  | zero => simp [s2, s1, rep]
  | succ n =>
    rw [s1_succ, s2_succ]
    have a := g1_lt (x % 256) (by omega)
    have b := g2_lt (x % 256) (by omega)
    have e : (g1 (x % 256) + 256 * s1 n (x / 256)) % 256 = g1 (x % 256) := by omega
    rw [e]; omega
theorem s123_succ (n x : Nat) : s3 (n + 1) (s2 (n + 1) (s1 (n + 1) x)) = cntBits 8 (x % 256) + 256 * s3 n (s2 n (s1 n (x / 256))) := by
  have a := g1_lt (x % 256) (by omega)
  have b := g2_lt (x % 256) (by omega)
  have e1 : s2 (n + 1) (s1 (n + 1) x) = g2 (g1 (x % 256)) + 256 * s2 n (s1 n (x / 256)) := by
    rw [s1_succ, s2_succ]
    have e : (g1 (x % 256) + 256 * s1 n (x / 256)) % 256 = g1 (x % 256) := by omega
    have e' : (g1 (x % 256) + 256 * s1 n (x / 256)) / 256 = s1 n (x / 256) := by omega
    rw [e, e']
  have l := s12_low n (x / 256)
  have m : s2 (n + 1) (s1 (n + 1) x) % 256 = g2 (g1 (x % 256)) := by omega
  have d : s2 (n + 1) (s1 (n + 1) x) / 256 = s2 n (s1 n (x / 256)) := by omega
  rw [s3_succ n _ (by omega) (by omega) (by omega), m, d, g3_pop _ (by omega)]
theorem cnt_succ (n x : Nat) : cntBits (8 + n) x = cntBits 8 (x % 256) + cntBits n (x / 256) := by
  unfold cntBits
  rw [List.range_add, List.countP_append, List.countP_map]
  congr 1
  · refine List.countP_congr fun k hk => ?_
    have hk : k < 8 := by simpa using hk
    have : (x % 2 ^ 8).testBit k = (decide (k < 8) && x.testBit k) := Nat.testBit_mod_two_pow ..
    simp only [show (2 : Nat) ^ 8 = 256 from rfl] at this
    rw [this]; simp [hk]
  · refine List.countP_congr fun k _ => ?_
    have : (x / 2 ^ 8).testBit k = x.testBit (8 + k) := by rw [Nat.testBit_div_two_pow, Nat.add_comm]
    simp only [show (2 : Nat) ^ 8 = 256 from rfl] at this
    simp only [Function.comp, this]
theorem cnt0 (x : Nat) : cntBits 0 x = 0 := rfl
/-- The library's count, as its text computes it. -/
def fold64 (y : Nat) : Nat :=
  let y := (y + y / 256) % 18446744073709551616
  let y := (y + y / 65536) % 18446744073709551616
  let y := (y + y / 4294967296) % 18446744073709551616
  y % 128
def onesOf (x : Nat) : Nat := fold64 (s3 8 (s2 8 (s1 8 x)))
set_option maxRecDepth 10000 in
theorem bytes8 (x : Nat) : ∃ p0 p1 p2 p3 p4 p5 p6 p7 : Nat, p0 ≤ 8 ∧ p1 ≤ 8 ∧ p2 ≤ 8 ∧ p3 ≤ 8 ∧ p4 ≤ 8 ∧ p5 ≤ 8 ∧ p6 ≤ 8 ∧ p7 ≤ 8 ∧
    s3 8 (s2 8 (s1 8 x)) = p0 + 256 * (p1 + 256 * (p2 + 256 * (p3 + 256 * (p4 + 256 * (p5 + 256 * (p6 + 256 * p7)))))) ∧
    cntBits 64 x = p0 + (p1 + (p2 + (p3 + (p4 + (p5 + (p6 + p7)))))) := by
  have z : ∀ y, s3 0 (s2 0 (s1 0 y)) = 0 := fun y => by simp [s3, rep]
  refine ⟨_, _, _, _, _, _, _, _, cnt8_le (x % 256) (by omega), cnt8_le (x / 256 % 256) (by omega), cnt8_le (x / 256 / 256 % 256) (by omega), cnt8_le (x / 256 / 256 / 256 % 256) (by omega),
    cnt8_le (x / 256 / 256 / 256 / 256 % 256) (by omega), cnt8_le (x / 256 / 256 / 256 / 256 / 256 % 256) (by omega), cnt8_le (x / 256 / 256 / 256 / 256 / 256 / 256 % 256) (by omega), cnt8_le (x / 256 / 256 / 256 / 256 / 256 / 256 / 256 % 256) (by omega), ?_, ?_⟩
  · rw [s123_succ, s123_succ, s123_succ, s123_succ, s123_succ, s123_succ, s123_succ, s123_succ, z, Nat.mul_zero, Nat.add_zero]
  · rw [show (64 : Nat) = 8 + 56 from rfl, cnt_succ, show (56 : Nat) = 8 + 48 from rfl, cnt_succ, show (48 : Nat) = 8 + 40 from rfl, cnt_succ, show (40 : Nat) = 8 + 32 from rfl, cnt_succ,
      show (32 : Nat) = 8 + 24 from rfl, cnt_succ, show (24 : Nat) = 8 + 16 from rfl, cnt_succ, show (16 : Nat) = 8 + 8 from rfl, cnt_succ]
    have h8 := cnt_succ 0 (x / 256 / 256 / 256 / 256 / 256 / 256 / 256)
    simp only [cnt0, Nat.add_zero] at h8
    rw [← h8]
theorem div1 (a t : Nat) (h : a < 256) : (a + 256 * t) / 256 = t := by omega
theorem div2 (a b t : Nat) (h : a < 256) (h' : b < 256) : (a + 256 * (b + 256 * t)) / 65536 = t := by omega
theorem div4 (a b c d t : Nat) (h : a < 256) (h' : b < 256) (h2 : c < 256) (h3 : d < 256) : (a + 256 * (b + 256 * (c + 256 * (d + 256 * t)))) / 4294967296 = t := by omega
theorem stp (y q r m : Nat) (hq : y / m = q) (hr : y + q = r) (hb : r < 18446744073709551616) : (y + y / m) % 18446744073709551616 = r := by
  rw [hq, hr, Nat.mod_eq_of_lt hb]
theorem fold_bytes (p0 p1 p2 p3 p4 p5 p6 p7 : Nat) (h0 : p0 ≤ 8) (h1 : p1 ≤ 8) (h2 : p2 ≤ 8) (h3 : p3 ≤ 8) (h4 : p4 ≤ 8) (h5 : p5 ≤ 8) (h6 : p6 ≤ 8) (h7 : p7 ≤ 8) :
    fold64 (p0 + 256 * (p1 + 256 * (p2 + 256 * (p3 + 256 * (p4 + 256 * (p5 + 256 * (p6 + 256 * (p7)))))))) = p0 + (p1 + (p2 + (p3 + (p4 + (p5 + (p6 + p7)))))) := by
  unfold fold64
  dsimp only
  rw [stp (p0 + 256 * (p1 + 256 * (p2 + 256 * (p3 + 256 * (p4 + 256 * (p5 + 256 * (p6 + 256 * (p7)))))))) (p1 + 256 * (p2 + 256 * (p3 + 256 * (p4 + 256 * (p5 + 256 * (p6 + 256 * (p7))))))) ((p0 + p1) + 256 * ((p1 + p2) + 256 * ((p2 + p3) + 256 * ((p3 + p4) + 256 * ((p4 + p5) + 256 * ((p5 + p6) + 256 * ((p6 + p7) + 256 * (p7)))))))) 256 (div1 p0 _ (by omega)) (by omega) (by omega)]
  rw [stp ((p0 + p1) + 256 * ((p1 + p2) + 256 * ((p2 + p3) + 256 * ((p3 + p4) + 256 * ((p4 + p5) + 256 * ((p5 + p6) + 256 * ((p6 + p7) + 256 * (p7)))))))) ((p2 + p3) + 256 * ((p3 + p4) + 256 * ((p4 + p5) + 256 * ((p5 + p6) + 256 * ((p6 + p7) + 256 * (p7)))))) ((p0 + p1 + p2 + p3) + 256 * ((p1 + p2 + p3 + p4) + 256 * ((p2 + p3 + p4 + p5) + 256 * ((p3 + p4 + p5 + p6) + 256 * ((p4 + p5 + p6 + p7) + 256 * ((p5 + p6 + p7) + 256 * ((p6 + p7) + 256 * (p7)))))))) 65536 (div2 (p0 + p1) (p1 + p2) _ (by omega) (by omega)) (by omega) (by omega)]
  rw [stp ((p0 + p1 + p2 + p3) + 256 * ((p1 + p2 + p3 + p4) + 256 * ((p2 + p3 + p4 + p5) + 256 * ((p3 + p4 + p5 + p6) + 256 * ((p4 + p5 + p6 + p7) + 256 * ((p5 + p6 + p7) + 256 * ((p6 + p7) + 256 * (p7)))))))) ((p4 + p5 + p6 + p7) + 256 * ((p5 + p6 + p7) + 256 * ((p6 + p7) + 256 * (p7)))) ((p0 + (p1 + (p2 + (p3 + (p4 + (p5 + (p6 + p7))))))) + 128 * (2 * ((p1 + p2 + p3 + p4 + p5 + p6 + p7) + 256 * ((p2 + p3 + p4 + p5 + p6 + p7) + 256 * ((p3 + p4 + p5 + p6 + p7) + 256 * ((p4 + p5 + p6 + p7) + 256 * ((p5 + p6 + p7) + 256 * ((p6 + p7) + 256 * (p7))))))))) 4294967296 (div4 (p0 + p1 + p2 + p3) (p1 + p2 + p3 + p4) (p2 + p3 + p4 + p5) (p3 + p4 + p5 + p6) _ (by omega) (by omega) (by omega) (by omega)) (by omega) (by omega)]
  rw [Nat.add_mul_mod_self_left, Nat.mod_eq_of_lt (by omega)]
theorem ones_eq (x : Nat) : onesOf x = cntBits 64 x := by
  obtain ⟨p0, p1, p2, p3, p4, p5, p6, p7, h0, h1, h2, h3, h4, h5, h6, h7, e, c⟩ := bytes8 x
  unfold onesOf
  rw [e, c]
  exact fold_bytes _ _ _ _ _ _ _ _ h0 h1 h2 h3 h4 h5 h6 h7
theorem rep85 : rep 85 8 = 6148914691236517205 := rfl
theorem rep51 : rep 51 8 = 3689348814741910323 := rfl
theorem rep15 : rep 15 8 = 1085102592571150095 := rfl
end Go.Proofs.YtdibijhaiaiifaaDoor
/- Sets of moments and their canonical lists of spans: the plain mathematics, no program in sight. -/
namespace Go.Proofs.YtdibijhaiaiifaaDoor
abbrev Sp := Int × Int
def has (l : List Sp) (k : Int) : Bool := l.any fun s => decide (s.1 ≤ k) && decide (k < s.2)
/-- The moments of a list, as a set. -/
def setOf (l : List Sp) (k : Nat) : Bool := has l (k : Int)
/-- The loop that lists the maximal spans: n rounds to go, at moment m, f the beginning of the open span (or less than 0). -/
def runs (S : Nat → Bool) : Nat → Nat → Int → List Sp
  | 0, _, _ => []
  | n + 1, m, f =>
    if (decide (m < 64) && S m) = true then (if f < 0 then runs S n (m + 1) m else runs S n (m + 1) f)
    else (if f < 0 then runs S n (m + 1) f else (f, (m : Int)) :: runs S n (m + 1) (-1))
def canon (S : Nat → Bool) : List Sp := runs S 65 0 (-1)

theorem runs_in_new (S : Nat → Bool) (n m : Nat) (f : Int) (h : m < 64) (hs : S m = true) (hf : f < 0) : runs S (n + 1) m f = runs S n (m + 1) m := by simp [runs, h, hs, hf]
theorem runs_in_on (S : Nat → Bool) (n m : Nat) (f : Int) (h : m < 64) (hs : S m = true) (hf : 0 ≤ f) : runs S (n + 1) m f = runs S n (m + 1) f := by
  simp [runs, h, hs]; intro; omega
theorem runs_out (S : Nat → Bool) (n m : Nat) (f : Int) (hs : (decide (m < 64) && S m) = false) (hf : f < 0) : runs S (n + 1) m f = runs S n (m + 1) f := by
  rw [runs, if_neg (by simp [hs]), if_pos hf]
theorem runs_end (S : Nat → Bool) (n m : Nat) (f : Int) (hs : (decide (m < 64) && S m) = false) (hf : 0 ≤ f) : runs S (n + 1) m f = (f, (m : Int)) :: runs S n (m + 1) (-1) := by
  rw [runs, if_neg (by simp [hs]), if_neg (by omega)]

theorem runs_ext {S T : Nat → Bool} (h : ∀ k, k < 64 → S k = T k) : ∀ n m f, runs S n m f = runs T n m f := by
  intro n
  induction n with
  | zero => intros; rfl
  | succ n ih =>
    intro m f
    have e : (decide (m < 64) && S m) = (decide (m < 64) && T m) := by
      by_cases hm : m < 64 <;> simp [hm]; exact h m hm
    simp only [runs, e, ih]
theorem canon_ext {S T : Nat → Bool} (h : ∀ k, k < 64 → S k = T k) : canon S = canon T := runs_ext h _ _ _

theorem has_cons (s : Sp) (l : List Sp) (k : Int) : has (s :: l) k = ((decide (s.1 ≤ k) && decide (k < s.2)) || has l k) := rfl
theorem has_nil (k : Int) : has [] k = false := rfl
theorem has_append (a b : List Sp) (k : Int) : has (a ++ b) k = (has a k || has b k) := by simp [has, List.any_append]
theorem has_runs (S : Nat → Bool) (k : Int) : ∀ (n m : Nat) (f : Int), n + m = 65 → (n = 0 → f < 0) → f < m →
    has (runs S n m f) k = ((decide (0 ≤ f) && decide (f ≤ k) && decide (k < m)) || (decide ((m : Int) ≤ k) && decide (k < 64) && S k.toNat)) := by
  intro n
  induction n with
  | zero =>
    intro m f hm h0 _
    have := h0 rfl
    have e : m = 65 := by omega
    subst e
    have e1 : decide (0 ≤ f) = false := by simp; omega
    have e2 : (decide (((65 : Nat) : Int) ≤ k) && decide (k < 64)) = false := by simp; omega
    rw [e1, e2]; simp [runs, has_nil]
  | succ n ih =>
    intro m f hm _ hfm
    by_cases hin : m < 64 ∧ S m = true
    · obtain ⟨h64, hs⟩ := hin
      by_cases hf : f < 0
      · rw [runs_in_new S n m f h64 hs hf, ih (m + 1) m (by omega) (by omega) (by omega)]
        by_cases hk : k = m
        · subst hk
          have a : decide ((m : Int) < 64) = true := by simp; omega
          have b : decide ((m : Int) < (m : Int) + 1) = true := by simp; omega
          simp [hs, a, b]
        · have e1 : decide (0 ≤ f) = false := by simp; omega
          rw [e1]
          by_cases hk1 : (m : Int) + 1 ≤ k
          · have a : decide ((m : Int) ≤ k) = true := by simp; omega
            have b : decide (((m + 1 : Nat) : Int) ≤ k) = true := by simp; omega
            have c : decide (k < ((m + 1 : Nat) : Int)) = false := by simp; omega
            rw [a, b, c]; simp
          · have a : decide ((m : Int) ≤ k) = false := by simp; omega
            have b : decide (((m + 1 : Nat) : Int) ≤ k) = false := by simp; omega
            rw [a, b]; simp
      · rw [runs_in_on S n m f h64 hs (by omega), ih (m + 1) f (by omega) (by omega) (by omega)]
        have e1 : decide (0 ≤ f) = true := by simp; omega
        rw [e1]
        by_cases hk : k = m
        · subst hk
          have a : decide ((m : Int) < 64) = true := by simp; omega
          have b : decide ((m : Int) < (m : Int) + 1) = true := by simp; omega
          have c : decide (f ≤ (m : Int)) = true := by simp; omega
          simp [hs, a, b, c]
        · by_cases hk1 : (m : Int) + 1 ≤ k
          · have a : decide ((m : Int) ≤ k) = true := by simp; omega
            have b : decide (((m + 1 : Nat) : Int) ≤ k) = true := by simp; omega
            have c : decide (k < ((m + 1 : Nat) : Int)) = false := by simp; omega
            have d : decide (k < (m : Int)) = false := by simp; omega
            rw [a, b, c, d]
          · have a : decide ((m : Int) ≤ k) = false := by simp; omega
            have b : decide (((m + 1 : Nat) : Int) ≤ k) = false := by simp; omega
            have c : decide (k < ((m + 1 : Nat) : Int)) = true := by simp; omega
            have d : decide (k < (m : Int)) = true := by simp; omega
            rw [a, b, c, d]
    · have hs : (decide (m < 64) && S m) = false := by
        by_cases h64 : m < 64
        · simp [h64]; cases hh : S m
          · rfl
          · exact absurd ⟨h64, hh⟩ hin
        · simp [h64]
      have key : (decide (((m + 1 : Nat) : Int) ≤ k) && decide (k < 64) && S k.toNat) = (decide ((m : Int) ≤ k) && decide (k < 64) && S k.toNat) := by
        by_cases hk : k = m
        · subst hk
          have e : (decide ((m : Int) < 64)) = decide (m < 64) := by simp; omega
          have e2 : decide (((m + 1 : Nat) : Int) ≤ (m : Int)) = false := by simp; omega
          rw [e, e2]
          simp at hs ⊢
          intro h; exact (hs h)
        · have e : decide (((m + 1 : Nat) : Int) ≤ k) = decide ((m : Int) ≤ k) := by simp; omega
          rw [e]
      by_cases hf : f < 0
      · rw [runs_out S n m f hs hf, ih (m + 1) f (by omega) (by omega) (by omega), key]
        have e1 : decide (0 ≤ f) = false := by simp; omega
        rw [e1]; simp
      · rw [runs_end S n m f hs (by omega), has_cons, ih (m + 1) (-1) (by omega) (by omega) (by omega), key]
        have e1 : decide (0 ≤ f) = true := by simp; omega
        rw [e1]; simp
theorem has_canon (S : Nat → Bool) (k : Int) : has (canon S) k = (decide (0 ≤ k) && decide (k < 64) && S k.toNat) := by
  rw [canon, has_runs S k 65 0 (-1) (by omega) (by omega) (by omega)]; simp
theorem setOf_canon (S : Nat → Bool) (k : Nat) (hk : k < 64) : setOf (canon S) k = S k := by
  rw [setOf, has_canon]; simp; omega
theorem canon_inj {S T : Nat → Bool} : canon S = canon T ↔ ∀ k, k < 64 → S k = T k :=
  ⟨fun h k hk => by rw [← setOf_canon S k hk, ← setOf_canon T k hk, h], canon_ext⟩
theorem canon_again (S : Nat → Bool) : canon (setOf (canon S)) = canon S := canon_ext fun k hk => setOf_canon S k hk

/-- What is true of each span of a canonical list. -/
theorem runs_gaps (S : Nat → Bool) : ∀ (n m : Nat) (f : Int), n + m = 65 → (n = 0 → f < 0) → f < m →
    (0 ≤ f → (∀ k : Nat, f ≤ k → k < m → S k = true) ∧ (f = 0 ∨ S (f.toNat - 1) = false)) → (f < 0 → m = 0 ∨ m = 65 ∨ S (m - 1) = false) →
    ∀ s ∈ runs S n m f, 0 ≤ s.1 ∧ s.1 < s.2 ∧ s.2 ≤ 64 ∧ S s.1.toNat = true ∧ S (s.2.toNat - 1) = true ∧ (s.1 = 0 ∨ S (s.1.toNat - 1) = false) ∧ (s.2 = 64 ∨ S s.2.toNat = false) := by
  intro n
  induction n with
  | zero => intro m f _ _ _ _ _ s hs; simp [runs] at hs
  | succ n ih =>
    intro m f hm h0 hfm hopen hshut s hs
    by_cases hin : m < 64 ∧ S m = true
    · obtain ⟨h64, hsm⟩ := hin
      by_cases hf : f < 0
      · rw [runs_in_new S n m f h64 hsm hf] at hs
        refine ih (m + 1) m (by omega) (by omega) (by omega) (fun _ => ⟨fun k h1 h2 => ?_, ?_⟩) (by omega) s hs
        · have : k = m := by omega
          rw [this]; exact hsm
        · rcases hshut hf with h | h | h
          · left; omega
          · omega
          · right; simpa using h
      · rw [runs_in_on S n m f h64 hsm (by omega)] at hs
        obtain ⟨g1, g2⟩ := hopen (by omega)
        refine ih (m + 1) f (by omega) (by omega) (by omega) (fun _ => ⟨fun k h1 h2 => ?_, g2⟩) (by omega) s hs
        by_cases hk : k = m
        · rw [hk]; exact hsm
        · exact g1 k h1 (by omega)
    · have hso : (decide (m < 64) && S m) = false := by
        by_cases h64 : m < 64
        · simp [h64]; cases hh : S m
          · rfl
          · exact absurd ⟨h64, hh⟩ hin
        · simp [h64]
      have hno : m + 1 = 65 ∨ S (m + 1 - 1) = false := by
        by_cases h64 : m < 64
        · right; simpa [h64] using hso
        · left; omega
      by_cases hf : f < 0
      · rw [runs_out S n m f hso hf] at hs
        exact ih (m + 1) f (by omega) (by omega) (by omega) (by omega) (fun _ => .inr hno) s hs
      · rw [runs_end S n m f hso (by omega)] at hs
        rcases List.mem_cons.1 hs with rfl | hs
        · obtain ⟨g1, g2⟩ := hopen (by omega)
          refine ⟨by simp; omega, by simp; omega, by simp; omega, g1 f.toNat (by omega) (by omega), g1 _ (by simp; omega) (by simp; omega), g2, ?_⟩
          rcases hno with h | h
          · left; simp; omega
          · right; simpa using h
        · exact ih (m + 1) (-1) (by omega) (by omega) (by omega) (by omega) (fun _ => .inr hno) s hs
theorem canon_gaps (S : Nat → Bool) : ∀ s ∈ canon S, 0 ≤ s.1 ∧ s.1 < s.2 ∧ s.2 ≤ 64 ∧ S s.1.toNat = true ∧ S (s.2.toNat - 1) = true ∧ (s.1 = 0 ∨ S (s.1.toNat - 1) = false) ∧ (s.2 = 64 ∨ S s.2.toNat = false) :=
  runs_gaps S 65 0 (-1) (by omega) (by omega) (by omega) (by omega) (fun _ => .inl rfl)

/-- How many moments of the first n from m on begin a span; p: whether the moment ahead of m is in the set. -/
def starts (S : Nat → Bool) : Nat → Nat → Bool → Nat
  | 0, _, _ => 0
  | n + 1, m, p => (if S m && !p then 1 else 0) + starts S n (m + 1) (S m)
theorem runs_length (S : Nat → Bool) : ∀ (n m : Nat) (f : Int), n + 1 + m = 65 → (runs S (n + 1) m f).length = starts S n m (decide (0 ≤ f)) + (if 0 ≤ f then 1 else 0) := by
  intro n
  induction n with
  | zero =>
    intro m f hm
    have e : m = 64 := by omega
    subst e
    by_cases hf : f < 0
    · rw [runs_out S 0 64 f (by simp) hf]; simp [runs, starts]; omega
    · rw [runs_end S 0 64 f (by simp) (by omega)]; simp [runs, starts]; omega
  | succ n ih =>
    intro m f hm
    have h64 : m < 64 := by omega
    cases hs : S m
    · by_cases hf : f < 0
      · rw [runs_out S (n + 1) m f (by simp [hs]) hf, ih _ _ (by omega)]
        have e1 : decide (0 ≤ f) = false := by simp; omega
        rw [e1]; simp [starts, hs]
      · rw [runs_end S (n + 1) m f (by simp [hs]) (by omega), List.length_cons, ih _ _ (by omega)]
        have e1 : decide (0 ≤ f) = true := by simp; omega
        rw [e1]; simp [starts, hs]; omega
    · by_cases hf : f < 0
      · rw [runs_in_new S (n + 1) m f h64 hs hf, ih _ _ (by omega)]
        have e1 : decide (0 ≤ f) = false := by simp; omega
        have e2 : decide (0 ≤ (m : Int)) = true := by simp
        have e3 : ¬ 0 ≤ f := by omega
        rw [e1, e2]; simp [starts, hs, e3]; omega
      · rw [runs_in_on S (n + 1) m f h64 hs (by omega), ih _ _ (by omega)]
        have e1 : decide (0 ≤ f) = true := by simp; omega
        rw [e1]; simp [starts, hs]
theorem canon_length (S : Nat → Bool) : (canon S).length = starts S 64 0 false := by
  have := runs_length S 64 0 (-1) (by omega)
  simpa [canon] using this
theorem starts_le (S : Nat → Bool) : ∀ n m p, 2 * starts S n m p + (if p then 1 else 0) ≤ n + 1 := by
  intro n
  induction n with
  | zero => intro m p; cases p <;> simp [starts]
  | succ n ih =>
    intro m p
    have := ih (m + 1) (S m)
    cases hs : S m <;> cases p <;> simp [starts, hs] at this ⊢ <;> omega
theorem canon_le (S : Nat → Bool) : (canon S).length ≤ 32 := by
  have := starts_le S 64 0 false
  rw [canon_length]; simp at this; omega

/-! ### The listing by gaps and runs of a word -/
theorem runs_skip (S : Nat → Bool) : ∀ d n m, d ≤ n → n + m = 65 → (∀ k, m ≤ k → k < m + d → k < 64 → S k = false) → runs S n m (-1) = runs S (n - d) (m + d) (-1) := by
  intro d
  induction d with
  | zero => intros; simp
  | succ d ih =>
    intro n m hd hm h
    obtain ⟨n, rfl⟩ : ∃ n', n = n' + 1 := ⟨n - 1, by omega⟩
    rw [runs_out S n m (-1) (by by_cases h64 : m < 64 <;> simp [h64]; exact h m (by omega) (by omega) h64) (by omega), ih n (m + 1) (by omega) (by omega) (fun k h1 h2 h3 => h k (by omega) (by omega) h3)]
    congr 1 <;> omega
theorem runs_over (S : Nat → Bool) : ∀ d n m (f : Int), d ≤ n → n + m = 65 → 0 ≤ f → m + d ≤ 64 → (∀ k, m ≤ k → k < m + d → S k = true) → runs S n m f = runs S (n - d) (m + d) f := by
  intro d
  induction d with
  | zero => intros; simp
  | succ d ih =>
    intro n m f hd hm hf hle h
    obtain ⟨n, rfl⟩ : ∃ n', n = n' + 1 := ⟨n - 1, by omega⟩
    rw [runs_in_on S n m f (by omega) (h m (by omega) (by omega)) hf, ih n (m + 1) f (by omega) (by omega) hf (by omega) (fun k h1 h2 => h k (by omega) (by omega))]
    congr 1 <;> omega
/-- What is left of the list at moment m, no span open. -/
def rest (S : Nat → Bool) (m : Nat) : List Sp := runs S (65 - m) m (-1)
theorem rest_zero (S : Nat → Bool) : rest S 0 = canon S := rfl
theorem rest_nil (S : Nat → Bool) (m : Nat) (hm : m ≤ 64) (h : ∀ k, m ≤ k → k < 64 → S k = false) : rest S m = [] := by
  unfold rest
  rw [runs_skip S (65 - m) (65 - m) m (by omega) (by omega) (fun k h1 _ h3 => h k h1 h3), Nat.sub_self]; rfl
theorem rest_cons (S : Nat → Bool) (m a t : Nat) (h1 : m ≤ a) (h2 : a < t) (h3 : t ≤ 64) (hgap : ∀ k, m ≤ k → k < a → S k = false) (hrun : ∀ k, a ≤ k → k < t → S k = true) (hend : t < 64 → S t = false) :
    rest S m = ((a : Int), (t : Int)) :: rest S t := by
  unfold rest
  rw [runs_skip S (a - m) (65 - m) m (by omega) (by omega) (fun k g1 g2 _ => hgap k g1 (by omega))]
  have e1 : 65 - m - (a - m) = (64 - a) + 1 := by omega
  have e2 : m + (a - m) = a := by omega
  rw [e1, e2, runs_in_new S (64 - a) a (-1) (by omega) (hrun a (by omega) h2) (by omega), runs_over S (t - a - 1) (64 - a) (a + 1) a (by omega) (by omega) (by omega) (by omega) (fun k g1 g2 => hrun k (by omega) (by omega))]
  have e3 : 64 - a - (t - a - 1) = (64 - t) + 1 := by omega
  have e4 : a + 1 + (t - a - 1) = t := by omega
  have hno : (decide (t < 64) && S t) = false := by by_cases h : t < 64 <;> simp [h]; exact hend h
  rw [e3, e4, runs_end S (64 - t) t a hno (by omega)]
  have e5 : 65 - t = (64 - t) + 1 := by omega
  rw [e5, runs_out S (64 - t) t (-1) hno (by omega)]
end Go.Proofs.YtdibijhaiaiifaaDoor
/- A set of moments as the bits of a 64-bit word: the plain arithmetic, no program in sight. -/
namespace Go.Proofs.YtdibijhaiaiifaaDoor
def top64 : Nat := 18446744073709551615
def belowN (n : Int) : Nat := if n ≤ 0 then 0 else if 64 ≤ n then top64 else 2 ^ n.toNat - 1
theorem top_bit (k : Nat) : top64.testBit k = decide (k < 64) := by
  have : top64 = 2 ^ 64 - 1 := rfl
  rw [this, Nat.testBit_two_pow_sub_one]
theorem belowN_lt (n : Int) : belowN n < 18446744073709551616 := by
  unfold belowN
  split
  · omega
  · split
    · unfold top64; omega
    · have : 2 ^ n.toNat ≤ 2 ^ 63 := Nat.pow_le_pow_right (by omega) (by omega)
      have : (2 : Nat) ^ 63 = 9223372036854775808 := rfl
      omega
theorem belowN_bit (n : Int) (k : Nat) (hk : k < 64) : (belowN n).testBit k = decide ((k : Int) < n) := by
  unfold belowN
  split
  · simp; omega
  · split
    · rw [top_bit]; rw [decide_eq_decide]; omega
    · rw [Nat.testBit_two_pow_sub_one]; rw [decide_eq_decide]; omega
def notW (x : Nat) : Nat := top64 - x
theorem notW_lt (x : Nat) : notW x < 18446744073709551616 := by unfold notW top64; omega
theorem notW_bit (x k : Nat) (hx : x < 18446744073709551616) (hk : k < 64) : (notW x).testBit k = !x.testBit k := by
  have : notW x = 2 ^ 64 - (x + 1) := by unfold notW top64; omega
  rw [this, Nat.testBit_two_pow_sub_succ (by exact hx)]; simp [hk]
theorem and_lt {x y : Nat} (hy : y < 18446744073709551616) : x &&& y < 18446744073709551616 := Nat.lt_of_le_of_lt Nat.and_le_right hy
theorem or_lt {x y : Nat} (hx : x < 18446744073709551616) (hy : y < 18446744073709551616) : x ||| y < 18446744073709551616 := Nat.or_lt_two_pow (n := 64) hx hy
def spanW (s : Sp) : Nat := belowN s.2 &&& notW (belowN s.1)
def ofW (l : List Sp) : Nat := l.foldl (fun w s => w ||| spanW s) 0
theorem spanW_lt (s : Sp) : spanW s < 18446744073709551616 := and_lt (notW_lt _)
theorem spanW_bit (s : Sp) (k : Nat) (hk : k < 64) : (spanW s).testBit k = (decide (s.1 ≤ (k : Int)) && decide ((k : Int) < s.2)) := by
  unfold spanW
  rw [Nat.testBit_and, notW_bit _ _ (belowN_lt _) hk, belowN_bit _ _ hk, belowN_bit _ _ hk, Bool.and_comm]
  congr 1
  rw [← decide_not, decide_eq_decide]; omega
theorem foldW (l : List Sp) : ∀ w : Nat, w < 18446744073709551616 → l.foldl (fun w s => w ||| spanW s) w < 18446744073709551616 ∧
    ∀ k, k < 64 → (l.foldl (fun w s => w ||| spanW s) w).testBit k = (w.testBit k || setOf l k) := by
  induction l with
  | nil => intro w h; exact ⟨h, fun k _ => by simp [setOf, has]⟩
  | cons s l ih =>
    intro w h
    obtain ⟨a, b⟩ := ih (w ||| spanW s) (or_lt h (spanW_lt s))
    refine ⟨a, fun k hk => ?_⟩
    rw [List.foldl_cons, b k hk, Nat.testBit_or, spanW_bit s k hk]
    simp [setOf, has_cons, Bool.or_assoc]
theorem ofW_lt (l : List Sp) : ofW l < 18446744073709551616 := (foldW l 0 (by omega)).1
theorem ofW_bit (l : List Sp) (k : Nat) (hk : k < 64) : (ofW l).testBit k = setOf l k := by
  rw [ofW, (foldW l 0 (by omega)).2 k hk]; simp
theorem ofW_snoc (l : List Sp) (s : Sp) : ofW (l ++ [s]) = ofW l ||| spanW s := by simp [ofW]
theorem ofW_take (l : List Sp) (k : Nat) (h : k < l.length) : ofW (l.take (k + 1)) = ofW (l.take k) ||| spanW (l.getD k (0, 0)) := by
  rw [List.take_succ_eq_append_getElem h, ofW_snoc]; simp [h]
/-- The bits as a set. -/
def bitsOf (x : Nat) (k : Nat) : Bool := x.testBit k
theorem canon_ofW (l : List Sp) : canon (bitsOf (ofW l)) = canon (setOf l) := canon_ext fun k hk => ofW_bit l k hk
theorem canon_notW (x : Nat) (hx : x < 18446744073709551616) : canon (bitsOf (notW x)) = canon fun k => !x.testBit k := canon_ext fun k hk => notW_bit x k hx hk
/-- The number of moments of a list. -/
def size (l : List Sp) : Nat := (List.range 64).countP (setOf l)
theorem ones_ofW (l : List Sp) : onesOf (ofW l) = size l := by
  rw [ones_eq]
  unfold cntBits size
  refine List.countP_congr fun k hk => ?_
  rw [ofW_bit l k (by simpa using hk)]

/-! ### Trailing zeros -/
theorem div_bit (x a k : Nat) : (x / 2 ^ a).testBit k = x.testBit (a + k) := by rw [Nat.testBit_div_two_pow, Nat.add_comm]
theorem ctz_bits (y : Nat) (h0 : y ≠ 0) (h : y < 2 ^ 64) : Lib.ctz 64 y < 64 ∧ y.testBit (Lib.ctz 64 y) = true ∧ ∀ k, k < Lib.ctz 64 y → y.testBit k = false := by
  obtain ⟨m, hm, hk⟩ := Lib.ctzFrom_spec 64 y (by omega) h
  have e : Lib.ctz 64 y = Lib.ctzFrom 64 y := by simp [Lib.ctz, h0]
  rw [e]
  generalize Lib.ctzFrom 64 y = c at *
  subst hm
  refine ⟨hk, ?_, fun k hk' => ?_⟩
  · rw [Nat.mul_comm, Nat.testBit_mul_two_pow]
    simp [Nat.testBit_zero]
  · rw [Nat.mul_comm, Nat.testBit_mul_two_pow]
    have : ¬ c ≤ k := by omega
    simp [this]
/-- The next span at or after moment m: where it begins and where it ends. -/
def begOf (x m : Nat) : Nat := m + Lib.ctz 64 (x / 2 ^ m)
def tillOf (x a : Nat) : Nat := a + Lib.ctz 64 (notW (x / 2 ^ a))
theorem div_lt (x m : Nat) (hx : x < 18446744073709551616) : x / 2 ^ m < 18446744073709551616 := Nat.lt_of_le_of_lt (Nat.div_le_self _ _) hx
theorem rest_none (x m : Nat) (hm : m ≤ 64) (h : x / 2 ^ m = 0) : rest (bitsOf x) m = [] := by
  refine rest_nil _ _ hm fun k h1 _ => ?_
  have := div_bit x m (k - m)
  rw [h, Nat.zero_testBit] at this
  rw [bitsOf, show k = m + (k - m) from by omega, ← this]
theorem rest_some (x m : Nat) (hx : x < 18446744073709551616) (hm : m ≤ 64) (h : x / 2 ^ m ≠ 0) :
    m ≤ begOf x m ∧ begOf x m < tillOf x (begOf x m) ∧ tillOf x (begOf x m) ≤ 64 ∧ Lib.ctz 64 (x / 2 ^ m) < 64 ∧ Lib.ctz 64 (notW (x / 2 ^ (begOf x m))) ≤ 64 ∧
    rest (bitsOf x) m = ((begOf x m : Int), (tillOf x (begOf x m) : Int)) :: rest (bitsOf x) (tillOf x (begOf x m)) := by
  obtain ⟨c1, c2, c3⟩ := ctz_bits _ h (div_lt x m hx)
  rw [div_bit] at c2
  have hb : x.testBit (begOf x m) = true := c2
  have hb64 : begOf x m < 64 := by
    rcases Nat.lt_or_ge (begOf x m) 64 with h | h
    · exact h
    · rw [Nat.testBit_lt_two_pow (Nat.lt_of_lt_of_le hx (Nat.pow_le_pow_right (n := 2) (by omega) h))] at hb
      cases hb
  generalize ha : begOf x m = a at *
  have hma : m ≤ a := by unfold begOf at ha; omega
  have hgap : ∀ k, m ≤ k → k < a → bitsOf x k = false := fun k h1 h2 => by
    have := c3 (k - m) (by unfold begOf at ha; omega)
    rw [div_bit, show m + (k - m) = k from by omega] at this
    exact this
  have hnb : ∀ k, a + k < 64 → (notW (x / 2 ^ a)).testBit k = !x.testBit (a + k) := fun k hk => by rw [notW_bit _ _ (div_lt x a hx) (by omega), div_bit]
  by_cases hz : notW (x / 2 ^ a) = 0
  · -- all ones: it can only be a = 0
    have hy : x / 2 ^ a = 18446744073709551615 := by
      have := div_lt x a hx
      unfold notW top64 at hz; omega
    have ha0 : a = 0 := by
      rcases Nat.eq_zero_or_pos a with h | h
      · exact h
      · have : x / 2 ^ a ≤ x / 2 ^ 1 := Nat.div_le_div_left (Nat.pow_le_pow_right (n := 2) (by omega) h) (by omega)
        omega
    have ht : tillOf x a = 64 := by
      unfold tillOf
      rw [hz, ha0]; rfl
    have hc : Lib.ctz 64 (notW (x / 2 ^ a)) = 64 := by rw [hz]; rfl
    refine ⟨hma, by omega, by omega, c1, by omega, ?_⟩
    rw [ht]
    refine rest_cons _ _ _ _ hma (by omega) (by omega) hgap (fun k h1 h2 => ?_) (by omega)
    have := hnb (k - a) (by omega)
    rw [hz, Nat.zero_testBit, show a + (k - a) = k from by omega] at this
    simpa [bitsOf] using this
  · obtain ⟨d1, d2, d3⟩ := ctz_bits _ hz (notW_lt _)
    have hd0 : 0 < Lib.ctz 64 (notW (x / 2 ^ a)) := by
      rcases Nat.eq_zero_or_pos (Lib.ctz 64 (notW (x / 2 ^ a))) with h | h
      · rw [h] at d2
        rw [hnb 0 (by omega), Nat.add_zero, hb] at d2
        cases d2
      · exact h
    have hle : tillOf x a ≤ 64 := by
      rcases Nat.lt_or_ge 64 (tillOf x a) with h | h
      · have h1 := d3 (64 - a) (by unfold tillOf at h; omega)
        have h2 : x / 2 ^ a < 2 ^ (64 - a) := by
          rw [Nat.div_lt_iff_lt_mul (Nat.two_pow_pos a), ← Nat.pow_add, show 64 - a + a = 64 from by omega]; exact hx
        have ha1 : 0 < a := by unfold tillOf at h; omega
        rw [notW_bit _ _ (div_lt x a hx) (by omega), Nat.testBit_lt_two_pow h2] at h1
        cases h1
      · exact h
    refine ⟨hma, by unfold tillOf; omega, hle, c1, by omega, ?_⟩
    refine rest_cons _ _ _ _ hma (by unfold tillOf; omega) hle hgap (fun k h1 h2 => ?_) (fun h => ?_)
    · have h3 := d3 (k - a) (by unfold tillOf at h2; omega)
      rw [hnb _ (by omega), show a + (k - a) = k from by omega] at h3
      simpa [bitsOf] using h3
    · have e : tillOf x a = a + Lib.ctz 64 (notW (x / 2 ^ a)) := rfl
      rw [hnb _ (by omega), ← e] at d2
      simpa [bitsOf] using d2
end Go.Proofs.YtdibijhaiaiifaaDoor
/- Words for memory: a slice of spans that reads as a list; what a call keeps. -/
namespace Go.Proofs.YtdibijhaiaiifaaDoor
open Go.RowKit
theorem cell_lt {w : World} {p : Addr} {v : Value} (h : w.cell? p = some v) : p.block < w.heap.size := by
  unfold World.cell? at h
  rcases Nat.lt_or_ge p.block w.heap.size with hlt | hge
  · exact hlt
  · rw [Array.getElem?_eq_none hge] at h; cases h
theorem cell_keep {w w' : World} {p : Addr} {v : Value} (hb : Below w.heap.size w w') (h : w.cell? p = some v) : w'.cell? p = some v := (hb.cell (cell_lt h)).trans h
theorem below_trans {w w1 w2 : World} (h : Below w.heap.size w w1) (k : Below w1.heap.size w1 w2) : Below w.heap.size w w2 := h.trans (k.mono h.size)
abbrev strV (l : List UInt8) : Value := .string ⟨l.toArray⟩
/-- The library's table. -/
def Tab (w : World) : Prop := ∀ j, j < 64 → w.cell? ⟨1, j, none⟩ = some (.int .u8 (Lib.deBruijn64tab.getD j 0))
theorem Tab.keep {w w' : World} (h : Tab w) (hb : Below w.heap.size w w') : Tab w' := fun j hj => cell_keep hb (h j hj)
def SpansAt (w : World) (a : Option Addr) (l : List Sp) : Prop :=
  l = [] ∨ ∃ b off, a = some ⟨b, off, none⟩ ∧ ∀ i, i < l.length → w.cell? ⟨b, off + i * 2, none⟩ = some (.int .i64 (l.getD i (0, 0)).1) ∧ w.cell? ⟨b, off + i * 2 + 1, none⟩ = some (.int .i64 (l.getD i (0, 0)).2)
theorem SpansAt.keep {w w' : World} {a : Option Addr} {l : List Sp} (h : SpansAt w a l) (hb : Below w.heap.size w w') : SpansAt w' a l := by
  rcases h with h | ⟨b, off, ha, hc⟩
  · exact .inl h
  · exact .inr ⟨b, off, ha, fun i hi => ⟨cell_keep hb (hc i hi).1, cell_keep hb (hc i hi).2⟩⟩
theorem SpansAt.at_ {w : World} {a : Option Addr} {l : List Sp} (h : SpansAt w a l) {i : Nat} (hi : i < l.length) :
    ∃ b off, a = some ⟨b, off, none⟩ ∧ ∀ i, i < l.length → w.cell? ⟨b, off + i * 2, none⟩ = some (.int .i64 (l.getD i (0, 0)).1) ∧ w.cell? ⟨b, off + i * 2 + 1, none⟩ = some (.int .i64 (l.getD i (0, 0)).2) := by
  rcases h with h | h
  · subst h; simp at hi
  · exact h
/-- The value v is a slice that reads as the list l. -/
def IsSpans (w : World) (v : Value) (l : List Sp) : Prop := ∃ a c, v = .slice a l.length c ∧ SpansAt w a l ∧ l.length ≤ 9223372036854775807 ∧ l.length ≤ c ∧ c ≤ 9223372036854775807
theorem IsSpans.keep {w w' : World} {v : Value} {l : List Sp} (h : IsSpans w v l) (hb : Below w.heap.size w w') : IsSpans w' v l := by
  obtain ⟨a, c, e, h, k⟩ := h
  exact ⟨a, c, e, h.keep hb, k⟩
/-- The value is no slice of an elder block. -/
def Fresh (base : Nat) (v : Value) : Prop := ∀ b, v.ownBlock = some b → base ≤ b
theorem Fresh.mono {a b : Nat} {v : Value} (h : Fresh b v) (hab : a ≤ b) : Fresh a v := fun k hk => Nat.le_trans hab (h k hk)
def IsSpansF (w : World) (base : Nat) (v : Value) (l : List Sp) : Prop := IsSpans w v l ∧ Fresh base v
theorem ret_int {k : IntKind} {a b : Int} (h : a = b) : Ending.returned (.int k a) = .returned (.int k b) := by rw [h]
end Go.Proofs.YtdibijhaiaiifaaDoor
